/- Part. -/
import Derived.Test.YtabadacjbkhmkaaGreatDoorEvRep
set_option linter.all false
namespace Go.Ev
/-! ### lists of cells -/
theorem repCs_nil {x : Rx} {vs : List Value} : repCs x [] vs ↔ vs = [] := by unfold repCs; rfl
theorem repCs_cons {x : Rx} {c : C1} {cs : List C1} {vs : List Value} : repCs x (c :: cs) vs ↔ ∃ v r, vs = v :: r ∧ repC x c v ∧ repCs x cs r := by
 rw [repCs]
theorem jA0 {x : Rx} : ∀ (cs : List C1) (vs : List Value), repCs x cs vs → vs.length = cs.length
 | [], _, h => by rw [repCs_nil.1 h]; rfl
 | _ :: cs, _, h => by
   obtain ⟨v, r, rfl, _, h2⟩ := repCs_cons.1 h; simp [jA0 cs r h2]
theorem nA2 {x : Rx} : ∀ (cs ds : List C1) (vs us : List Value), repCs x cs vs → repCs x ds us → repCs x (cs ++ ds) (vs ++ us)
 | [], _, _, _, h, k => by rw [repCs_nil.1 h]; exact k
 | _ :: cs, ds, _, us, h, k => by
   obtain ⟨v, r, rfl, h1, h2⟩ := repCs_cons.1 h; exact repCs_cons.2 ⟨v, r ++ us, rfl, h1, nA2 cs ds r us h2 k⟩
theorem lA0 {x : Rx} : ∀ (n : Nat) (cs : List C1) (vs : List Value), repCs x cs vs → repCs x (cs.take n) (vs.take n)
 | 0, _, _, _ => by simp [repCs_nil]
 | _ + 1, [], _, h => by rw [repCs_nil.1 h]; simp [repCs_nil]
 | n + 1, _ :: cs, _, h => by
   obtain ⟨v, r, rfl, h1, h2⟩ := repCs_cons.1 h; exact repCs_cons.2 ⟨v, r.take n, rfl, h1, lA0 n cs r h2⟩
theorem mA0 {x : Rx} : ∀ (n : Nat) (cs : List C1) (vs : List Value), repCs x cs vs → repCs x (cs.drop n) (vs.drop n)
 | 0, _, _, h => by simpa using h
 | _ + 1, [], _, h => by rw [repCs_nil.1 h]; simp [repCs_nil]
 | n + 1, _ :: cs, _, h => by
   obtain ⟨v, r, rfl, h1, h2⟩ := repCs_cons.1 h; simpa using mA0 n cs r h2
theorem lA3 {x : Rx} {cs ds : List C1} {vs us : List Value} {off : Nat} (h : repCs x cs vs) (k : repCs x ds us) :
 repCs x (overC cs off ds) (vs.take off ++ us ++ vs.drop (off + us.length)) := by
 unfold overC; rw [jA0 _ _ k]; exact nA2 _ _ _ _ (nA2 _ _ _ _ (lA0 off cs vs h) k) (mA0 _ cs vs h)
theorem zB6 {x : Rx} {c : C1} {v : Value} (hk : known c = true) (h : repC x c v) (hσ : ∀ id, ¬ x.N id → (x.σ id).oneCell' = true) : v.oneCell' = true := by
 cases c <;> simp only [repC] at h <;> first
  | (simp [known] at hk; done)
  | (rw [h]; rfl)
  | (rw [h.1]; rfl)
  | (obtain ⟨⟨a, len, cap, e, _⟩, _⟩ := h; simp at e; rw [e]; rfl)
  | (rw [h.2]; exact hσ _ h.1)
  | (obtain ⟨_, a, n, c, a', _, _, _, e, _⟩ := h; rw [e]; rfl)
  | (obtain ⟨_, b, _, e⟩ := h; rw [e]; rfl)
  | (obtain ⟨b, o, vs, e, _⟩ := h; rw [e]; rfl)
  | (obtain ⟨_, b, n, c, _, e⟩ := h; rw [e]; rfl)
  | (obtain ⟨vs, e, _⟩ := h; rw [e]; rfl)
  | (obtain ⟨_, _, _, b, _, e⟩ := h; rw [e]; rfl)
/-! ### typed values and their cells -/
theorem rA1 : ∀ (t : Ty) (y : t.den), (expl t y).length = t.n
 | .int _, _ => rfl
 | .bool, _ => rfl
 | .str, _ => rfl
 | .unit, _ => rfl
 | .sl _, _ => rfl
 | .pair a b, p => by simp [expl, Ty.n, rA1 a p.1, rA1 b p.2]
theorem vA0 {x : Rx} : ∀ (t : Ty) (y : t.den) (vs : List Value), ro x.w x.O t y vs → repCs x (expl t y) vs
 | .int k, n, vs, h => by rw [h.1]; exact repCs_cons.2 ⟨_, _, rfl, by unfold repC; exact ⟨rfl, h.2⟩, repCs_nil.2 rfl⟩
 | .bool, b, vs, h => by rw [show _ = _ from h]; exact repCs_cons.2 ⟨_, _, rfl, by unfold repC; rfl, repCs_nil.2 rfl⟩
 | .str, s, vs, h => by rw [h.1]; exact repCs_cons.2 ⟨_, _, rfl, by unfold repC; exact ⟨rfl, h.2⟩, repCs_nil.2 rfl⟩
 | .unit, _, vs, h => by rw [show _ = _ from h]; exact repCs_nil.2 rfl
 | .sl t, xs, vs, h => by
   have h' := h; obtain ⟨a, len, cap, e, _⟩ := h'; subst e
   exact repCs_cons.2 ⟨_, _, rfl, by unfold repC; exact ⟨h, by simp⟩, repCs_nil.2 rfl⟩
 | .pair a b, p, vs, ⟨c, d, e, h1, h2⟩ => by rw [e]; exact nA2 _ _ _ _ (vA0 a p.1 c h1) (vA0 b p.2 d h2)
theorem aA1 {t u : Ty} {xs : List t.den} {ys : List u.den} (h : castTy t u xs = some ys) : ∃ e : t = u, ys = e ▸ xs := by
 unfold castTy at h; split at h
 · rename_i e; exact ⟨e, (Option.some.inj h).symm⟩
 · cases h
theorem bA8 (t : Ty) (xs : List t.den) : castTy t t xs = some xs := by simp [castTy]
theorem CellsAt.sub {w : World} {O : Nat → Prop} {b o : Nat} {pre vs post : List Value} (h : CellsAt w O b o (pre ++ (vs ++ post))) : CellsAt w O b (o + pre.length) vs := by
 intro j u hu; have hj : j < vs.length := (List.getElem?_eq_some_iff.1 hu).1; have := h (pre.length + j) u (by rw [List.getElem?_append_right (by omega), Nat.add_sub_cancel_left, List.getElem?_append_left hj]; exact hu)
 rwa [← Nat.add_assoc] at this
theorem uD3 {w : World} {O : Nat → Prop} {t : Ty} {xs : List t.den} {a : Option Addr} {len cap : Nat} (h : ro w O (.sl t) xs [.slice a len cap]) {l hi : Nat} (h1 : l ≤ hi) (h2 : hi ≤ xs.length) (mx : Nat) (h3 : hi ≤ mx) (h4 : mx ≤ cap) (s : Nat) (hs : s = t.n) :
 ro w O (.sl t) ((xs.take hi).drop l) [sliced a l hi mx s] := by
 subst hs; obtain ⟨a', len', cap', e1, e2, e3, e4, e5⟩ := h; simp at e1; obtain ⟨rfl, rfl, rfl⟩ := e1; have hlen : ((xs.take hi).drop l).length = hi - l := by simp; omega
 unfold sliced; refine ⟨_, hi - l, mx - l, rfl, hlen.symm, by omega, by omega, ?_⟩
 rcases e5 with e6 | ⟨b, q, flat, rfl, e7, e8⟩
 · exact .inl (by omega)
 · have hx : xs = xs.take l ++ ((xs.take hi).drop l ++ xs.drop hi) := by
    have e1 : xs.take l = (xs.take hi).take l := by rw [List.take_take, Nat.min_eq_left h1]
    rw [e1, ← List.append_assoc, List.take_append_drop, List.take_append_drop]
   obtain ⟨pre, rest, hf, hp1, hp2⟩ := dA2 _ _ flat (hx ▸ e7); obtain ⟨vs, post, hf2, hv, _⟩ := dA2 _ _ rest hp2; subst hf2; subst hf; have hpl : pre.length = l * t.n := by
    rw [nA0 (fun x c => qA0 t x c) _ _ hp1, List.length_take, Nat.min_eq_left (by omega)]
   by_cases hm : mx = l
   · subst hm; refine .inr ⟨b, q, vs, by simp, hv, ?_⟩; have : hi - mx = 0 := by omega
     have hvs : vs = [] := List.eq_nil_of_length_eq_zero (by rw [nA0 (fun x c => qA0 t x c) _ _ hv, hlen, this, Nat.zero_mul]); subst hvs; intro j u hu; simp at hu
   · refine .inr ⟨b, q + l * t.n, vs, by rw [if_neg hm]; simp [oA0], hv, ?_⟩; have := e8.sub
     rwa [hpl] at this
theorem kA5 {α : Type} {r : α → List Value → Prop} {n : Nat} (hn : ∀ x c, r x c → c.length = n) {xs : List α} {flat : List Value} (h : roAll r xs flat) {l hi : Nat} (h1 : l ≤ hi) (h2 : hi ≤ xs.length) :
 ∃ pre vs post, flat = pre ++ (vs ++ post) ∧ pre.length = l * n ∧ roAll r (xs.take l) pre ∧ roAll r ((xs.take hi).drop l) vs ∧ roAll r (xs.drop hi) post := by
 have hx : xs = xs.take l ++ ((xs.take hi).drop l ++ xs.drop hi) := by
  have e1 : xs.take l = (xs.take hi).take l := by rw [List.take_take, Nat.min_eq_left h1]
  rw [e1, ← List.append_assoc, List.take_append_drop, List.take_append_drop]
 obtain ⟨pre, rest, hf, hp1, hp2⟩ := dA2 _ _ flat (hx ▸ h); obtain ⟨vs, post, hf2, hv, hp⟩ := dA2 _ _ rest hp2; exact ⟨pre, vs, post, by rw [hf, hf2], by rw [nA0 hn _ _ hp1, List.length_take, Nat.min_eq_left (by omega)], hp1, hv, hp⟩
theorem yA1 {cx : Cx} {σ : Nat → Value} {N : Nat → Prop} {m : Mem} {w : World} {id : Nat} {e : TypeId} {t : Ty} {xs : List t.den} (h : repB (rx cx σ N m w) id (.row e t xs)) :
 ∃ a cap flat, σ id = .slice a xs.length cap ∧ xs.length ≤ cap ∧ cap ≤ maxLen ∧ roAll (ro w (Owned cx σ m) t) xs flat ∧
   ((cap = 0 ∧ xs = [] ∧ flat = []) ∨ ∃ b, a = some ⟨b, 0, none⟩ ∧ blkOf (σ id) = some b ∧ ∀ j u, flat[j]? = some u → w.cell? ⟨b, j, none⟩ = some u) := by
 obtain ⟨n, flat, rfl, k, k1⟩ := h; simp only [rx] at k k1
 rcases k.2 with ⟨e2, a, e1⟩ | ⟨g, cap, cur, hc, e1, hg, h1, h2, h3, h4⟩
 · have hx : xs = [] := List.eq_nil_of_length_eq_zero e2; subst hx; rw [show flat = [] from k1] at k; exact ⟨a, 0, [], e1, Nat.le_refl _, by simp [maxLen], rfl, .inl ⟨rfl, rfl, rfl⟩⟩
 · exact ⟨_, cap, flat, e1, h1, h2, k1, .inr ⟨g, rfl, by rw [e1]; exact gA0 hc, fun j u hu => hA1 k (by rw [e1]; exact gA0 hc) j u hu⟩⟩
theorem uA4 {x : Rx} {id sz lo len : Nat} {v : Value} (h : repC x (.win id sz lo len) v) {a : Option Addr} {n c : Nat} (hs : x.σ id = .slice a n c) :
 lo + len ≤ n ∧ n ≤ c ∧ ∃ a', v = .slice a' len (c - lo) ∧ (lo < c → ∃ b, a = some ⟨b, 0, none⟩ ∧ a' = some ⟨b, lo * sz, none⟩) := by
 unfold repC at h; obtain ⟨_, a0, n0, c0, a', h1, h2, h3, h4, h5⟩ := h; rw [hs] at h1; simp only [Value.slice.injEq] at h1; obtain ⟨rfl, rfl, rfl⟩ := h1; exact ⟨h2, h3, a', h4, h5⟩
theorem cB8 {x : Rx} {w : World} {O : Nat → Prop} {t : Ty} {xs : List t.den} {id lo len : Nat} {v : Value} (h : ro w O (.sl t) xs [x.σ id]) (k : repC x (.win id t.n lo len) v) (hl : lo + len ≤ xs.length) :
 ro w O (.sl t) ((xs.take (lo + len)).drop lo) [v] := by
 have h' := h; obtain ⟨a, n, c, e1, e2, e3, e4, e5⟩ := h; simp only [List.cons.injEq, and_true] at e1; obtain ⟨g1, g2, a', g3, g4⟩ := uA4 k e1; have hlen : ((xs.take (lo + len)).drop lo).length = len := by simp; omega
 subst g3; refine ⟨a', len, c - lo, rfl, hlen.symm, by omega, by omega, ?_⟩; by_cases hc : lo < c
 · obtain ⟨b, rfl, rfl⟩ := g4 hc
   rcases e5 with e6 | ⟨b', o, flat, e7, e8, e9⟩
   · omega
   · simp only [Option.some.injEq, Addr.mk.injEq, and_true] at e7; obtain ⟨rfl, rfl⟩ := e7; obtain ⟨pre, vs, post, f1, f2, _, f4, _⟩ := kA5 (fun x c => qA0 t x c) e8 (Nat.le_add_right lo len) hl; subst f1; refine .inr ⟨b, lo * t.n, vs, rfl, f4, ?_⟩; have := e9.sub
     rwa [f2, Nat.zero_add] at this
 · exact .inl (by omega)
theorem rA4 {cx : Cx} {σ : Nat → Value} {N : Nat → Prop} {m : Mem} {w : World} (h : RepM cx σ N m w) {t : Ty} {c : C1} {ys : List t.den} {v : Value}
 (hv : view m t c = some ys) (hc : repC (rx cx σ N m w) c v) :
 ∃ a n cap flat, v = .slice a n cap ∧ n = ys.length ∧ n ≤ cap ∧ cap ≤ maxLen ∧ roAll (ro w (Owned cx σ m) t) ys flat ∧
   ((cap = 0 ∧ flat = []) ∨ ∃ b o, a = some ⟨b, o, none⟩ ∧ ∀ j u, flat[j]? = some u → w.cell? ⟨b, o + j, none⟩ = some u) := by
 have sl : ∀ (xs : List t.den), ro w (Owned cx σ m) (.sl t) xs [v] → ∃ a n cap flat, v = .slice a n cap ∧ n = xs.length ∧ n ≤ cap ∧ cap ≤ maxLen ∧ roAll (ro w (Owned cx σ m) t) xs flat ∧
  ((cap = 0 ∧ flat = []) ∨ ∃ b o, a = some ⟨b, o, none⟩ ∧ ∀ j u, flat[j]? = some u → w.cell? ⟨b, o + j, none⟩ = some u) := by
  rintro xs ⟨a, len, cap, e, h2, h3, h4, h5⟩; simp at e
  rcases h5 with h7 | ⟨b, o, flat, h6, h7, h8⟩
  · have hx : xs = [] := List.eq_nil_of_length_eq_zero (by omega); subst hx; exact ⟨a, len, cap, [], e, h2, h3, h4, rfl, .inl ⟨h7, rfl⟩⟩
  · exact ⟨a, len, cap, flat, e, h2, h3, h4, h7, .inr ⟨b, o, h6, fun j u hu => (h8 j u hu).2⟩⟩
 cases c with
 | nilsl =>
   simp [view] at hv; subst hv; unfold repC at hc
   exact ⟨none, 0, 0, [], hc, rfl, Nat.le_refl _, by simp [maxLen], rfl, .inl ⟨rfl, rfl⟩⟩
 | sl u xs cp =>
   simp only [view] at hv; obtain ⟨e, rfl⟩ := aA1 hv; subst e; unfold repC at hc
   exact sl _ hc.1
 | row id =>
   simp only [view] at hv; unfold repC at hc; obtain ⟨hn, rfl⟩ := hc; have hb := h.blk id
   cases hm : m id with
   | row e u xs =>
     rw [hm] at hv hb; simp only [] at hv; obtain ⟨e', rfl⟩ := aA1 hv; subst e'; obtain ⟨a, cap, flat, e1, e2, e3, e4, e5⟩ := yA1 hb
     rcases e5 with ⟨rfl, rfl, rfl⟩ | ⟨b, rfl, _, e6⟩
     · exact ⟨a, 0, 0, [], e1, rfl, Nat.le_refl _, by simp [maxLen], rfl, .inl ⟨rfl, rfl⟩⟩
     · exact ⟨_, xs.length, cap, flat, e1, rfl, e2, e3, e4, .inr ⟨b, 0, rfl, fun j u hu => by rw [Nat.zero_add]; exact e6 j u hu⟩⟩
   | settled u xs =>
     rw [hm] at hv hb; simp only [] at hv; obtain ⟨e', rfl⟩ := aA1 hv; subst e'
     exact sl _ hb
   | dead => rw [hm] at hv; cases hv
   | cells _ _ => rw [hm] at hv; cases hv
   | mapb _ _ _ _ _ => rw [hm] at hv; cases hv
   | fam _ _ _ => rw [hm] at hv; cases hv
   | mapg _ _ _ _ _ => rw [hm] at hv; cases hv
   | lenb _ => rw [hm] at hv; cases hv
   | scell _ => rw [hm] at hv; cases hv
   | rowg _ _ _ _ _ _ => rw [hm] at hv; cases hv
 | win id sz lo len =>
   simp only [view] at hv; have hb := h.blk id
   cases hm : m id with
   | row e u xs =>
     rw [hm] at hv hb; simp only [] at hv; split at hv
     · rename_i hc'; obtain ⟨e', rfl⟩ := aA1 hv; subst e'; obtain ⟨rfl, hll⟩ := hc'; obtain ⟨a, cap, flat, e1, e2, e3, e4, e5⟩ := yA1 hb; obtain ⟨g1, g2, a', g3, g4⟩ := uA4 hc (by simp only [rx]; exact e1); have hlen : ((xs.take (lo + len)).drop lo).length = len := by simp; omega
       subst g3; obtain ⟨pre, vs, post, f1, f2, _, f4, _⟩ := kA5 (fun x c => qA0 u x c) e4 (Nat.le_add_right lo len) hll; refine ⟨a', len, cap - lo, vs, rfl, hlen.symm, by omega, by omega, f4, ?_⟩; by_cases hlc : lo < cap
       · obtain ⟨b, rfl, rfl⟩ := g4 hlc
         rcases e5 with ⟨rfl, _⟩ | ⟨b', e7, _, e6⟩
         · omega
         · simp only [Option.some.injEq, Addr.mk.injEq, and_true] at e7; subst e7; refine .inr ⟨b, lo * u.n, rfl, fun j q hq => e6 _ q ?_⟩; have hj := (List.getElem?_eq_some_iff.1 hq).1; rw [f1, List.getElem?_append_right (by omega), f2, Nat.add_sub_cancel_left, List.getElem?_append_left hj]; exact hq
       · have h0 : len = 0 := by omega
         subst h0; exact .inl ⟨by omega, List.eq_nil_of_length_eq_zero (by rw [nA0 (fun x c => qA0 u x c) _ _ f4, hlen, Nat.zero_mul])⟩
     · cases hv
   | settled u xs =>
     rw [hm] at hv hb; simp only [] at hv; split at hv
     · rename_i hc'; obtain ⟨e', rfl⟩ := aA1 hv; subst e'; obtain ⟨rfl, hll⟩ := hc'; exact sl _ (cB8 (x := rx cx σ N m w) hb hc hll)
     · cases hv
   | dead => rw [hm] at hv; cases hv
   | cells _ _ => rw [hm] at hv; cases hv
   | mapb _ _ _ _ _ => rw [hm] at hv; cases hv
   | fam _ _ _ => rw [hm] at hv; cases hv
   | mapg _ _ _ _ _ => rw [hm] at hv; cases hv
   | lenb _ => rw [hm] at hv; cases hv
   | scell _ => rw [hm] at hv; cases hv
   | rowg _ _ _ _ _ _ => rw [hm] at hv; cases hv
 | _ => simp [view] at hv
theorem mC4 {cx : Cx} {σ : Nat → Value} {N : Nat → Prop} {m : Mem} {w : World} (h : RepM cx σ N m w) {t : Ty} {c : C1} {ys : List t.den} {v : Value}
 (hv : view m t c = some ys) (hc : repC (rx cx σ N m w) c v) (hno : ∀ id ∈ rowsOf [c], own (m id) = false) : ro w (Owned cx σ m) (.sl t) ys [v] := by
 cases c with
 | nilsl =>
   simp [view] at hv; subst hv; unfold repC at hc
   exact ⟨none, 0, 0, by rw [hc], rfl, Nat.le_refl _, by simp [maxLen], .inl rfl⟩
 | sl u xs cp =>
   simp only [view] at hv; obtain ⟨e, rfl⟩ := aA1 hv; subst e; unfold repC at hc
   exact hc.1
 | row id =>
   simp only [view] at hv; unfold repC at hc; obtain ⟨hn, rfl⟩ := hc; have hb := h.blk id; have ho := hno id (by simp [rowsOf])
   cases hm : m id with
   | settled u xs =>
     rw [hm] at hv hb; simp only [] at hv; obtain ⟨e', rfl⟩ := aA1 hv; subst e'
     exact hb
   | row e u xs => rw [hm] at ho; simp [own] at ho
   | dead => rw [hm] at hv; cases hv
   | cells _ _ => rw [hm] at hv; cases hv
   | mapb _ _ _ _ _ => rw [hm] at hv; cases hv
   | fam _ _ _ => rw [hm] at hv; cases hv
   | mapg _ _ _ _ _ => rw [hm] at hv; cases hv
   | lenb _ => rw [hm] at hv; cases hv
   | scell _ => rw [hm] at hv; cases hv
   | rowg _ _ _ _ _ _ => rw [hm] at hv; cases hv
 | win id sz lo len =>
   simp only [view] at hv; have hb := h.blk id; have ho := hno id (by simp [rowsOf])
   cases hm : m id with
   | settled u xs =>
     rw [hm] at hv hb; simp only [] at hv; split at hv
     · rename_i hc'; obtain ⟨e', rfl⟩ := aA1 hv; subst e'; obtain ⟨rfl, hll⟩ := hc'; exact cB8 (x := rx cx σ N m w) hb hc hll
     · cases hv
   | row e u xs => rw [hm] at ho; simp [own] at ho
   | dead => rw [hm] at hv; cases hv
   | cells _ _ => rw [hm] at hv; cases hv
   | mapb _ _ _ _ _ => rw [hm] at hv; cases hv
   | fam _ _ _ => rw [hm] at hv; cases hv
   | mapg _ _ _ _ _ => rw [hm] at hv; cases hv
   | lenb _ => rw [hm] at hv; cases hv
   | scell _ => rw [hm] at hv; cases hv
   | rowg _ _ _ _ _ _ => rw [hm] at hv; cases hv
 | _ => simp [view] at hv
theorem kA0 : ∀ (cs ds : List C1), rowsOf (cs ++ ds) = rowsOf cs ++ rowsOf ds
 | [], _ => rfl
 | c :: cs, ds => by cases c <;> simp [rowsOf, kA0 cs ds]
theorem xA1 {id : Nat} {n : Nat} {cs : List C1} (h : id ∈ rowsOf (cs.take n)) : id ∈ rowsOf cs := by
 rw [← List.take_append_drop n cs, kA0]; exact List.mem_append_left _ h
theorem wA1 {id : Nat} {n : Nat} {cs : List C1} (h : id ∈ rowsOf (cs.drop n)) : id ∈ rowsOf cs := by
 rw [← List.take_append_drop n cs, kA0]; exact List.mem_append_right _ h
theorem lB0 {k : IntKind} {cs : List C1} {n : Int} (h : implI k cs = some n) : cs = [.int k n] := by
 unfold implI at h; split at h
 · split at h
   · rename_i e; subst e; simp at h; subst h; rfl
   · cases h
 · cases h
theorem dB0 {cs : List C1} {b : Bool} (h : implB cs = some b) : cs = [.bool b] := by
 unfold implB at h; split at h
 · simp at h; subst h; rfl
 · cases h
theorem gB0 {cs : List C1} {s : ByteArray} (h : implS cs = some s) : cs = [.str s] := by
 unfold implS at h; split at h
 · simp at h; subst h; rfl
 · cases h
theorem tA9 {cs : List C1} {u : Unit} (h : implU cs = some u) : cs = [] := by
 unfold implU at h; split at h
 · rfl
 · cases h
theorem wA9 {m : Mem} {t : Ty} {cs : List C1} {ys : List t.den} (h : implL m t cs = some ys) : ∃ c, cs = [c] ∧ view m t c = some ys := by
 unfold implL at h; split at h
 · exact ⟨_, rfl, h⟩
 · cases h
theorem bA1 {α β : Type} {a : Option α} {b : Option β} {p : α × β} (h : implP a b = some p) : a = some p.1 ∧ b = some p.2 := by
 unfold implP at h; split at h
 · simp at h; subst h; exact ⟨rfl, rfl⟩
 · cases h
theorem rA2 {cx : Cx} {σ : Nat → Value} {N : Nat → Prop} {m : Mem} {w : World} (h : RepM cx σ N m w) : ∀ (t : Ty) (cs : List C1) (y : t.den) (vs : List Value),
 impl m t cs = some y → repCs (rx cx σ N m w) cs vs → (∀ id ∈ rowsOf cs, own (m id) = false) → ro w (Owned cx σ m) t y vs
 | .int k, cs, y, vs, hi, hr, _ => by
   rw [lB0 hi] at hr; obtain ⟨v, r, rfl, h1, h2⟩ := repCs_cons.1 hr; rw [repCs_nil.1 h2]; unfold repC at h1
   exact ⟨by rw [h1.1], h1.2⟩
 | .bool, cs, y, vs, hi, hr, _ => by
   rw [dB0 hi] at hr; obtain ⟨v, r, rfl, h1, h2⟩ := repCs_cons.1 hr; rw [repCs_nil.1 h2]; unfold repC at h1
   exact congrArg (fun q => [q]) h1
 | .str, cs, y, vs, hi, hr, _ => by
   rw [gB0 hi] at hr; obtain ⟨v, r, rfl, h1, h2⟩ := repCs_cons.1 hr; rw [repCs_nil.1 h2]; unfold repC at h1
   exact ⟨by rw [h1.1], h1.2⟩
 | .unit, cs, y, vs, hi, hr, _ => by
   rw [tA9 hi] at hr
   exact repCs_nil.1 hr
 | .sl t, cs, y, vs, hi, hr, hno => by
   obtain ⟨c, e, hv⟩ := wA9 hi; subst e; obtain ⟨v, r, rfl, h1, h2⟩ := repCs_cons.1 hr; rw [repCs_nil.1 h2]
   exact mC4 h hv h1 hno
 | .pair a b, cs, y, vs, hi, hr, hno => by
   obtain ⟨hp, hq⟩ := bA1 hi; have h1 := rA2 h a _ _ _ hp (lA0 a.n cs vs hr) (fun id hid => hno id (xA1 hid)); have h2 := rA2 h b _ _ _ hq (mA0 a.n cs vs hr) (fun id hid => hno id (wA1 hid)); exact ⟨_, _, (List.take_append_drop a.n vs).symm, h1, h2⟩
/-! ### updates of the memory's list -/
theorem qB2 {α : Type} (d : α) (l : List (Nat × α)) (i : Nat) (v : α) (j : Nat) : getL d (setL l i v) j = if i = j then v else getL d l j := by
 induction l with
 | nil => simp [setL, getL]
 | cons p l ih =>
   obtain ⟨k, x⟩ := p; by_cases hk : k = i
   · subst hk; simp only [setL, if_true, getL]; split <;> simp_all
   · simp only [setL, if_neg hk, getL, ih]; by_cases hkj : k = j
     · subst hkj; simp [Ne.symm hk]
     · simp [hkj]
theorem cA4 : ∀ (u l : Heap), mem (setMany l u) = updM (mem l) u
 | [], _ => rfl
 | (k, b) :: u, l => by
   simp only [setMany, updM]; rw [cA4 u]; congr 1; funext j; exact qB2 _ l k b j
theorem yA0 (m : Mem) : ∀ (a b : Heap), updM m (a ++ b) = updM (updM m a) b
 | [], _ => rfl
 | (k, x) :: a, b => by simp only [List.cons_append, updM]; exact yA0 _ a b
theorem uA0 (m : Mem) : ∀ (u : Heap) (id : Nat), (∀ p ∈ u, p.1 ≠ id) → updM m u id = m id
 | [], _, _ => rfl
 | (k, b) :: u, id, h => by
   simp only [updM]; rw [uA0 _ u id (fun p hp => h p (List.mem_cons_of_mem _ hp)), if_neg (h (k, b) List.mem_cons_self)]
theorem zA0 (m0 : Mem) : ∀ (ids : List Nat) (m : Mem) (id : Nat), (∀ i ∈ ids, m i = m0 i ∨ m i = (settle m0 i).2) →
 updM m (ids.map (settle m0)) id = if id ∈ ids then (settle m0 id).2 else m id
 | [], _, _, _ => by simp [updM]
 | i :: ids, m, id, h => by
   simp only [List.map_cons]; rw [show settle m0 i = (i, (settle m0 i).2) from rfl]; simp only [updM]; rw [zA0 m0 ids _ id (fun j hj => ?_)]
   · by_cases hi : i = id
     · subst hi; simp
     · simp [hi, Ne.symm hi]
   · by_cases hij : i = j
     · subst hij; simp
     · simp only [hij, if_false]; exact h j (List.mem_cons_of_mem _ hj)
theorem tA1 (m : Mem) (id : Nat) (h : own (settle m id).2 = true) : own (m id) = true := by
 unfold settle at h; cases hm : m id <;> simp_all [own]
theorem aA2 {m : Mem} : ∀ (t : Ty) (cs : List C1) (y : t.den), impl m t cs = some y → ∀ id ∈ rowsOf cs, ∃ u xs, m id = .settled u xs ∨ ∃ e, m id = .row e u xs
 | .int k, cs, y, hi, id, hid => by rw [lB0 hi] at hid; simp [rowsOf] at hid
 | .bool, cs, y, hi, id, hid => by rw [dB0 hi] at hid; simp [rowsOf] at hid
 | .str, cs, y, hi, id, hid => by rw [gB0 hi] at hid; simp [rowsOf] at hid
 | .unit, cs, y, hi, id, hid => by rw [tA9 hi] at hid; simp [rowsOf] at hid
 | .sl t, cs, y, hi, id, hid => by
   obtain ⟨c, e, hv⟩ := wA9 hi; subst e; cases c <;> simp [rowsOf] at hid <;> subst hid <;> simp only [view] at hv <;>
   · cases hm : m id with
     | row e u xs => exact ⟨u, xs, .inr ⟨e, rfl⟩⟩
     | settled u xs => exact ⟨u, xs, .inl rfl⟩
     | _ => rw [hm] at hv; cases hv
 | .pair a b, cs, y, hi, id, hid => by
   obtain ⟨hp, hq⟩ := bA1 hi; rw [← List.take_append_drop a.n cs, kA0, List.mem_append] at hid; exact hid.elim (aA2 a _ _ hp id) (aA2 b _ _ hq id)
theorem oA3 (m : Mem) (id : Nat) : (settle m id).2 = match m id with | .row _ t xs => .settled t xs | b => b := rfl
theorem RepM.settles {cx : Cx} {σ : Nat → Value} {N : Nat → Prop} {m : Mem} {w : World} (h : RepM cx σ N m w) (ids : List Nat) :
 RepM cx σ N (updM m (ids.map (settle m))) w ∧ Rx.Keeps (rx cx σ N m w) (rx cx σ N (updM m (ids.map (settle m))) w) := by
 have hu : ∀ id, updM m (ids.map (settle m)) id = if id ∈ ids then (settle m id).2 else m id := fun id => zA0 m ids m id (fun i _ => .inl rfl)
 refine h.step (fun id => id ∈ ids) (fun _ h => h) (fun id hn => ?_) (fun id hn => ⟨by rw [hu, if_neg hn], rfl⟩) (fun _ _ => rfl) (fun _ _ _ => rfl) ⟨Nat.le_refl _, Nat.le_refl _⟩ rfl rfl rfl
  (fun id b hi ho hb => ?_) (fun id id' b hi hi' ho ho' hb hb' => ?_) (fun id _ => h.hone id) (fun hk id hi => ?_)
 · rw [hu]; split
   · simp [settle, h.fresh id hn]
   · exact h.fresh id hn
 · rw [hu, if_pos hi] at ho; exact .inr ⟨id, hi, tA1 m id ho, hb⟩
 · rw [hu, if_pos hi] at ho; rw [hu, if_pos hi'] at ho'; exact h.inj id id' b (tA1 m id ho) (tA1 m id' ho') hb hb'
 · rw [hu, if_pos hi]; have hb := h.blk id; generalize hM : updM m (ids.map (settle m)) = M at *; rw [oA3]
   cases hm : m id with
   | row e t xs =>
     rw [hm] at hb; obtain ⟨a, cap, flat, e1, e2, e3, e4, e5⟩ := yA1 hb; show ro w (Owned cx σ _) (.sl t) xs [σ id]; refine ⟨a, xs.length, cap, by rw [e1], rfl, e2, e3, ?_⟩
     rcases e5 with ⟨rfl, _⟩ | ⟨g, rfl, e5, e6⟩
     · exact .inl rfl
     · refine .inr ⟨g, 0, flat, rfl, fA0 (hA0 hk.k t) _ _ e4, fun j u hu' => ⟨?_, by rw [Nat.zero_add]; exact e6 j u hu'⟩⟩; rintro (hf | ⟨i, ho, hbi⟩)
       · exact h.notF id g (by rw [hm]; rfl) (.inl e5) hf
       · have hoi : own (m i) = true := by
          rw [hu] at ho; split at ho
          · exact tA1 m i ho
          · exact ho
         have := h.inj id i g (by rw [hm]; rfl) hoi (.inl e5) hbi; subst this; rw [hu, if_pos hi] at ho
         simp [settle, hm, own] at ho
   | dead => trivial
   | settled t xs =>
     rw [hm] at hb; show ro w _ (.sl t) xs [σ id]
     exact hA0 hk.k (.sl t) xs _ hb
   | cells e cs =>
     rw [hm] at hb; obtain ⟨b, vs, e1, e2, k, k1⟩ := hb
     exact ⟨b, vs, e1, e2, sA0 hk cs vs k, k1⟩
   | mapb kt vt ka va l =>
     rw [hm] at hb; obtain ⟨r, es, cl, e1, e2, k, ks⟩ := hb
     exact ⟨r, es, cl, e1, e2, cA3 hk l _ k, ks⟩
   | fam e t xss =>
     rw [hm] at hb; obtain ⟨f, vs, e1, k⟩ := hb
     exact ⟨f, vs, e1, fA5 hk k (fun _ _ _ _ => rfl)⟩
   | mapg kt ka fid ks hole =>
     rw [hm] at hb; obtain ⟨r, es, f, vs, e1, e2, e3, e4, k⟩ := hb
     exact ⟨r, es, f, vs, e1, e2, e3, e4, rA6 hk k⟩
   | lenb n =>
     rw [hm] at hb
     exact hb
   | scell cs =>
     rw [hm] at hb; obtain ⟨b, vs, e1, k, k1⟩ := hb
     exact ⟨b, vs, e1, sA0 hk cs vs k, k1.keep hk.k⟩
   | rowg e t p fid xs hole =>
     rw [hm] at hb; obtain ⟨f, vs, flat, e1, e2, e3, k, k1⟩ := hb; exact ⟨f, vs, flat, e1, e2, e3, k, fA0 (fA1 hk.k) _ _ k1⟩
theorem wA7 (m : Mem) (ids : List Nat) (t : Ty) (c : C1) : view (updM m (ids.map (settle m))) t c = view m t c := by
 have key : ∀ id, updM m (ids.map (settle m)) id = if id ∈ ids then (settle m id).2 else m id := fun id => zA0 m ids m id (fun i _ => .inl rfl)
 cases c <;> try rfl
 · rename_i id; simp only [view]; rw [key]; by_cases hi : id ∈ ids
   · rw [if_pos hi, oA3]; cases hm : m id <;> simp
   · rw [if_neg hi]
 · rename_i id' sz lo len; simp only [view]; rw [key]; by_cases hi : id' ∈ ids
   · rw [if_pos hi, oA3]; cases hm : m id' <;> simp
   · rw [if_neg hi]
theorem cA2 (m : Mem) (ids : List Nat) : ∀ (t : Ty) (cs : List C1), impl (updM m (ids.map (settle m))) t cs = impl m t cs
 | .int _, _ => rfl
 | .bool, _ => rfl
 | .str, _ => rfl
 | .unit, _ => rfl
 | .sl t, cs => by
   show implL _ t cs = implL _ t cs; unfold implL; split
   · exact wA7 m ids t _
   · rfl
 | .pair a b, cs => by
   show implP _ _ = implP _ _; rw [cA2 m ids a, cA2 m ids b]
theorem aA3 {m : Mem} {ids : List Nat} {t : Ty} {cs : List C1} {y : t.den} (hi : impl m t cs = some y) (hs : ∀ id ∈ rowsOf cs, id ∈ ids) :
 ∀ id ∈ rowsOf cs, own (updM m (ids.map (settle m)) id) = false := by
 intro id hid; rw [zA0 m ids m id (fun i _ => .inl rfl), if_pos (hs id hid), oA3]; obtain ⟨u, xs, hm | ⟨e, hm⟩⟩ := aA2 _ _ _ hi id hid <;> simp [hm, own]
theorem jA8 {m : Mem} : ∀ {ids : List Nat} {id : Nat}, id ∈ ids → ¬ id ∈ rowsN m ids → own (m id) = false
 | i :: l, id, h, hn => by
   unfold rowsN at hn
   cases hm : m i with
   | settled u xs =>
     rw [hm] at hn
     rcases List.mem_cons.1 h with rfl | h
     · rw [hm]; rfl
     · exact jA8 h hn
   | _ =>
     rw [hm] at hn; simp only [List.mem_cons, not_or] at hn
     rcases List.mem_cons.1 h with rfl | h
     · exact absurd rfl hn.1
     · exact jA8 h hn.2
theorem sA6 {m : Mem} {t : Ty} {cs : List C1} {y : t.den} (hi : impl m t cs = some y) :
 ∀ id ∈ rowsOf cs, own (updM m ((rowsN m (rowsOf cs)).map (settle m)) id) = false := by
 intro id hid; rw [zA0 m _ m id (fun i _ => .inl rfl)]; split
 · rw [oA3]; obtain ⟨u, xs, hm | ⟨e, hm⟩⟩ := aA2 _ _ _ hi id hid <;> simp [hm, own]
 · rename_i h; exact jA8 hid h
end Go.Ev

namespace Go.Ev
/-! ### the table of types -/
def aggB : TypeDesc → Bool
 | .struct _ | .array _ _ => true
 | _ => false
def sizeB (P : Program) (t : TypeId) : Nat := ((P.info? t).map (·.size)).getD 0
def isAggB (P : Program) (t : TypeId) : Bool := ((P.underlying t).map aggB).getD false
def zCell : Z → Value → Prop
 | .c c, v => constC v = c ∧ (match c with | .int k n => InR k n | .str s => s.size ≤ maxLen | .nilsl => v = .slice none 0 0 | .undef => v = .map none | _ => True)
 | .s _ _, v => v = .slice none 0 0
def zCells : List Z → List Value → Prop
 | [], vs => vs = []
 | z :: zs, vs => ∃ v r, vs = v :: r ∧ zCell z v ∧ zCells zs r
def eqTB (P : Program) : Nat → TypeId → Option (List CK)
 | 0, _ => none
 | d + 1, t => match P.underlying t, (P.info? t).map (·.size) with
   | some (.int k), some 1 => some [.i k]
   | some .bool, some 1 => some [.b]
   | some .string, some 1 => some [.s]
   | some (.struct fs), some n => if P.stoodInHeld t then none else
     (match eqFs (eqTB P d) fs.toList 0 with
     | some ks => if ks.length = n then some ks else none
     | none => none)
   | some (.array k e), some n => (match eqTB P d e with
     | some ks => if k * ks.length = n then some (List.replicate k ks).flatten else none
     | none => none)
   | _, _ => none
where eqFs (f : TypeId → Option (List CK)) : List Field → Nat → Option (List CK)
 | [], _ => some []
 | x :: xs, off => if x.name ≠ "_" ∧ x.offset = off then (match f x.type with
     | some ks => (eqFs f xs (off + ks.length)).map (ks ++ ·)
     | none => none) else none
def zTy : Ty → List Value → Prop
 | .int k, vs => vs = [.int k 0]
 | .bool, vs => vs = [.bool false]
 | .str, vs => vs = [.string ByteArray.empty]
 | .unit, vs => vs = []
 | .sl _, vs => vs = [.slice none 0 0]
 | .pair a b, vs => ∃ x y, vs = x ++ y ∧ zTy a x ∧ zTy b y
def zTyN (u : Ty) : Nat → List Value → Prop
 | 0, vs => vs = []
 | n + 1, vs => ∃ x y, vs = x ++ y ∧ zTy u x ∧ zTyN u n y
structure TIok (P : Program) (t : TypeId) (ti : TI) : Prop where
 info : ∃ i, P.info? t = some i ∧ i.size = ti.size ∧ i.bytes = ti.bytes ∧ ∃ z, i.zero = some z ∧ z.cells.size = ti.size ∧ (ti.zero ≠ [] → zCells ti.zero z.cells.toList)
 agg : ∃ d, P.underlying t = some d ∧ aggB d = ti.agg
 one : ti.agg = false → ti.size = 1
 ty : ∀ u, ti.ty = some u → u.n = ti.size ∧ 0 < ti.size ∧ 0 < ti.bytes
 int : ∀ k, ti.desc = .int → ti.ty = some (.int k) → P.underlying t = some (.int k)
 str : ti.desc = .str → P.underlying t = some .string
 bool : ti.desc = .bool → P.underlying t = some .bool
 slice : ∀ e, ti.desc = .slice e → P.underlying t = some (.slice e)
 struct : ∀ fs, ti.desc = .struct fs → ∃ flds : Array Field, P.underlying t = some (.struct flds) ∧ fs = flds.toList.map (fun f => (f.offset, sizeB P f.type, isAggB P f.type)) ∧
  (∀ f ∈ flds, ∃ i d, P.info? f.type = some i ∧ P.underlying f.type = some d) ∧ ∀ f ∈ flds, f.offset + sizeB P f.type ≤ ti.size ∧ (isAggB P f.type = false → sizeB P f.type = 1)
 map : ∀ k e, ti.desc = .map k e → P.underlying t = some (.map k e)
 eqn : ti.eqn ≠ [] → eqTB P 100 t = some ti.eqn ∧ P.eqGuardType P.depth t = false
 arr : ∀ n e u, ti.desc = .array n e u → P.underlying t = some (.array n e) ∧ 0 < n ∧ n ≤ maxLen ∧ 0 < u.n ∧ ∃ i z, P.info? t = some i ∧ i.zero = some z ∧ zTyN u n z.cells.toList
 zt : ∀ u, ti.zt = true → ti.ty = some u → ∃ i vs, P.info? t = some i ∧ i.zero = some (mkV ti.agg vs) ∧ zTy u vs
 ptr : ∀ e, ti.desc = .ptr e → P.underlying t = some (.pointer e)
def TabOK (P : Program) (T : Tab) : Prop := ∀ t ti, findL T t = some ti → TIok P t ti
theorem sA1 {α : Type} (d : α) : ∀ (l : List (Nat × α)) (i : Nat), getL d l i = (findL l i).getD d
 | [], _ => rfl
 | (k, v) :: l, i => by
   unfold getL findL; split
   · rfl
   · exact sA1 d l i
theorem TI.of_ok {P : Program} {T : Tab} (h : TabOK P T) (t : TypeId) (hne : TI.of T t ≠ TI.none) : TIok P t (TI.of T t) := by
 unfold TI.of at *; rw [sA1] at *
 cases hf : findL T t with
 | none => rw [hf] at hne; exact absurd rfl hne
 | some ti => exact h t ti hf
/-! ### a run -/
def Runs (P : Program) (w : World) (K : Value → World → Prop) : Result Next → Prop
 | .ok (.value v) w' => K v w'
 | .ok .skip w' => K undef w'
 | .ok (.enter f args) w' => w' = w ∧ Calls P f args w fun e w'' => ∃ v, e = .returned v ∧ K v w''
 | _ => False
theorem Runs.mono {P : Program} {w : World} {K K' : Value → World → Prop} {r : Result Next} (h : Runs P w K r) (hk : ∀ v w', K v w' → K' v w') : Runs P w K' r := by
 unfold Runs at h ⊢; split at h
 · exact hk _ _ h
 · exact hk _ _ h
 · exact ⟨h.1, h.2.mono fun e w' ⟨v, e1, e2⟩ => ⟨v, e1, hk v w' e2⟩⟩
 · exact h.elim
def WideF (F : Fence) : Prop := F = Fence.wide ∨ ∃ l, F = Fence.wide.inRound l
theorem WideF.fn {F : Fence} (h : WideF F) (f : FuncId) : F.fn f := by rcases h with rfl | ⟨l, rfl⟩ <;> trivial
theorem WideF.dep {F : Fence} (h : WideF F) : F.depth = none := by rcases h with rfl | ⟨l, rfl⟩ <;> rfl
theorem WideF.calls {F : Fence} (h : WideF F) {n : Nat} {P : Program} {f : FuncId} {args : Array Value} {w : World} {R : Ending → World → Prop} (hc : Calls P f args w R) : CallsIn F n P f args w R := by
 have := (callsIn_wide (n := n)).2 hc
 rcases h with rfl | ⟨l, rfl⟩
 · exact this
 · exact ⟨trivial, fun cs hr => this.2 cs (room_wide _)⟩
theorem Runs.wpIn {F : Fence} (hW : WideF F) {n : Nat} {P : Program} {o : Oper} {a : Act} {w : World} {K : Value → World → Prop} {K' : Act → World → Prop} {Q : Exit → Act → World → Prop} (hd : ∀ c, o.op ≠ .defer c)
 (h : Runs P w K ((execOp a.eval o).run P w)) (hK : ∀ v w', K v w' → K' (a.put o.dst v) w') : o.wpIn F n P a w K' Q := by
 refine ⟨fun f _ => hW.fn f, ?_⟩; rw [Oper.semAt_eq _ _ _ hd]; generalize (execOp a.eval o).run P w = r at *
 cases r with
 | ok q w' =>
   cases q <;> simp only [Runs] at h <;> simp only [Oper.uponIn]
   case value v => exact hK _ _ h
   case skip => exact hK _ _ h
   case enter f args =>
    obtain ⟨rfl, hc⟩ := h
    exact ⟨fun hs => (by rw [hW.dep] at hs; cases hs), hW.calls (hc.mono fun e w'' ⟨v, he, hk⟩ => by subst he; exact hK _ _ hk)⟩
 | halt x w' => simp only [Runs] at h
def Nx (N : Nat → Prop) (fr : Nat) : Nat → Prop := fun id => N id ∧ ¬ (fr ≤ id ∧ id < fr + 32)
def Res (cx : Cx) (σ : Nat → Value) (N : Nat → Prop) (m : Mem) (w : World) (fr : Nat) (E : Eff) (v : Value) (w' : World) : Prop :=
 ∃ σ', RepM cx σ' (Nx N fr) (updM m E.u) w' ∧ Rx.Keeps (rx cx σ N m w) (rx cx σ' (Nx N fr) (updM m E.u) w') ∧
   repA (rx cx σ' (Nx N fr) (updM m E.u) w') E.r v ∧ E.asm
section
variable {cx : Cx} {σ : Nat → Value} {N : Nat → Prop} {m : Mem} {w : World} {fr : Nat}
theorem RepM.weaken (h : RepM cx σ N m w) {N' : Nat → Prop} (hN : ∀ id, N' id → N id) : RepM cx σ N' m w ∧ Rx.Keeps (rx cx σ N m w) (rx cx σ N' m w) :=
 h.step (fun _ => False) hN (fun id hn => h.fresh id (hN id hn)) (fun _ _ => ⟨rfl, rfl⟩) (fun _ _ => rfl) (fun _ _ _ => rfl) ⟨Nat.le_refl _, Nat.le_refl _⟩ rfl rfl rfl
  (fun _ _ h => h.elim) (fun _ _ _ h => h.elim) (fun _ h => h.elim) (fun _ _ h => h.elim)
theorem Res.pure (h : RepM cx σ N m w) {E : Eff} (hu : E.u = []) {v : Value} (hr : repA (rx cx σ N m w) E.r v) (ha : E.asm) : Res cx σ N m w fr E v w := by
 obtain ⟨h1, h2⟩ := h.weaken (N' := Nx N fr) (fun _ k => k.1); refine ⟨σ, ?_, ?_, ?_, ha⟩ <;> rw [hu]
 · exact h1
 · exact h2
 · exact pA0 h2 _ _ hr
theorem rA0 (h : RepM cx σ N m w) {r : AV} {v : Value} (hr : repA (rx cx σ N m w) r v) : Res cx σ N m w fr (okr r) v w :=
 Res.pure h rfl hr trivial
theorem Res.settled (h : RepM cx σ N m w) {E : Eff} {ids : List Nat} (hu : E.u = ids.map (settle m)) {v : Value}
 (hr : RepM cx σ N (updM m (ids.map (settle m))) w → Rx.Keeps (rx cx σ N m w) (rx cx σ N (updM m (ids.map (settle m))) w) → repA (rx cx σ N (updM m (ids.map (settle m))) w) E.r v) (ha : E.asm) : Res cx σ N m w fr E v w := by
 obtain ⟨h1, k1⟩ := h.settles ids; obtain ⟨h2, k2⟩ := h1.weaken (N' := Nx N fr) (fun _ k => k.1); refine ⟨σ, ?_, ?_, ?_, ha⟩ <;> rw [hu]
 · exact h2
 · exact ⟨k1.k.trans k2.k (Nat.le_refl _), fun id hn => rfl, fun id hn => hn.1⟩
 · exact pA0 k2 _ _ (hr h1 k1)
end
/-! ### operations that compute -/
section
variable {cx : Cx} {σ : Nat → Value} {N : Nat → Prop} {m : Mem} {w : World} {P : Program} {T : Tab}
theorem nB2 {x : Rx} {k : IntKind} {n : Int} (h : InR k n) : repA x (.one (.int k n)) (.int k n) := by unfold repA repC; exact ⟨rfl, h⟩
theorem kA1 {x : Rx} (b : Bool) : repA x (.one (.bool b)) (.bool b) := by unfold repA repC; rfl
theorem lA1 {x : Rx} {k : IntKind} {n : Int} {v : Value} (h : repA x (.one (.int k n)) v) : v = .int k n ∧ InR k n := by unfold repA repC at h; exact h
theorem wA3 {x : Rx} {b : Bool} {v : Value} (h : repA x (.one (.bool b)) v) : v = .bool b := by unfold repA repC at h; exact h
theorem tC0 {x : Rx} {s : ByteArray} {v : Value} (h : repA x (.one (.str s)) v) : v = .string s ∧ s.size ≤ maxLen := by unfold repA repC at h; exact h
theorem IntKind.wrap_inR (k : IntKind) (n : Int) : InR k (k.wrap n) := by
 unfold InR IntKind.wrap; cases k <;> simp only [IntKind.bits, IntKind.signed, IntKind.min, IntKind.max] <;> constructor <;> (first | omega | (split <;> omega) | (simp <;> omega))
theorem IntKind.wrap_in {k : IntKind} {n : Int} (h : InR k n) : k.wrap n = n := by
 obtain ⟨h1, h2⟩ := h; unfold IntKind.wrap IntKind.min IntKind.max at *; cases k <;> simp [IntKind.signed, IntKind.bits] at * <;> omega
theorem hA5 (h : RepM cx σ N m w) (fr : Nat) (k : IntKind) (n : Int) (p : Prop) (hn : InR k n) : Res cx σ N m w fr ⟨p, .one (.int k n), [], True⟩ (.int k n) w :=
 Res.pure h rfl (nB2 hn) trivial
theorem xA5 (h : RepM cx σ N m w) (fr : Nat) (b : Bool) : Res cx σ N m w fr (okr (.one (.bool b))) (.bool b) w :=
 rA0 h (kA1 b)
end
end Go.Ev

namespace Go.Ev
section
variable {cx : Cx} {σ : Nat → Value} {N : Nat → Prop} {m : Mem} {w : World} {P : Program} {T : Tab} {G : Env} {o : Oper} {fr : Nat} {ρ : Operand → Value} {av : Operand → AV}
theorem bA0 {K : Value → World → Prop} {r : Result Next} {v : Value} {w' : World} (e : r = .ok (.value v) w') (h : K v w') : Runs P w K r := by rw [e]; exact h
theorem lA2 {K : Value → World → Prop} {r : Result Next} {w' : World} (e : r = .ok .skip w') (h : K undef w') : Runs P w K r := by rw [e]; exact h
theorem iB2 {x : Rx} {a : AV} {v : Value} {c b : Bool} (h : pickV a = some (c, b)) (hr : repA x a v) (hc : c = true) : v = .bool b := by
 unfold pickV at h; split at h
 · cases h; exact wA3 hr
 · cases h; unfold repA at hr; exact wA3 (hr.1 hc)
 · cases h
theorem zD2 (h : RepM cx σ N m w) {c a b : Operand} (ho : o.op = .pick c a b) (hc : repA (rx cx σ N m w) (av c) (ρ c)) (ha : repA (rx cx σ N m w) (av a) (ρ a)) (hb : repA (rx cx σ N m w) (av b) (ρ b))
 (hp : (opEff T G o [av c, av a, av b] m fr).pre) : Runs P w (Res cx σ N m w fr (opEff T G o [av c, av a, av b] m fr)) ((execOp ρ o).run P w) := by
 simp only [opEff, ho] at hp ⊢
 cases h1 : pickV (av c) with
 | none => rw [h1] at hp; exact hp.elim
 | some p1 =>
   cases h2 : pickV (av a) with
   | none => rw [h1, h2] at hp; exact hp.elim
   | some p2 =>
     cases h3 : pickV (av b) with
     | none => rw [h1, h2, h3] at hp; exact hp.elim
     | some p3 =>
       obtain ⟨ce, e⟩ := p1; obtain ⟨cx', x⟩ := p2; obtain ⟨cy, y⟩ := p3; rw [h1, h2, h3] at hp; obtain ⟨k1, k2, k3⟩ := hp; have e1 := iB2 h1 hc k1; refine bA0 (v := .bool (if e then x else y)) (w' := w) ?_ (Res.pure h rfl (kA1 _) trivial)
       cases e with
       | true =>
         have e2 := iB2 h2 ha (k2 rfl)
         simp [execOp, ho, e1, e2, asBool]
       | false =>
         have e3 := iB2 h3 hb (k3 rfl); simp [execOp, ho, e1, e3, asBool]
theorem xA6 (a b : ByteArray) : (a.toList == b.toList) = decide (a = b) := by
 by_cases e : a = b
 · subst e; simp
 · have : a.toList ≠ b.toList := fun k => e (by
    rw [ByteArray.toList_eq, ByteArray.toList_eq] at k; exact WideShapes.bytes_inj k)
   simp [e, this]
theorem fD1 (h : RepM cx σ N m w) {op : BinOp} {t u : TypeId} {x y : Operand} (ho : o.op = .binOp op t x y u) {c d : C1} (hx : repA (rx cx σ N m w) (.one c) (ρ x)) (hy : repA (rx cx σ N m w) (.one d) (ρ y))
 (hT : P.underlying t = some .bool ∨ ∀ a b, ¬ (c = .bool a ∧ d = .bool b))
 (hp : (binE op c d).pre) : Runs P w (Res cx σ N m w fr (binE op c d)) ((execOp ρ o).run P w) := by
 have hrun : ∀ v, (binOp op t (ρ x) (ρ y)).run P w = .ok v w → (eqGuard op t x y (ρ x) (ρ y)).run P w = .ok () w → (execOp ρ o).run P w = .ok (.value v) w := by
  intro v h1 h2; simp [execOp, ho, h1, h2]
 unfold binE at hp ⊢; split at hp
 · rename_i k a k' b; obtain ⟨e1, r1⟩ := lA1 hx; obtain ⟨e2, r2⟩ := lA1 hy; split at hp
   · rename_i hk; subst hk; have hg : (eqGuard op t x y (ρ x) (ρ y)).run P w = .ok () w := by rw [e1, e2]; unfold eqGuard; cases op <;> simp
     simp only [if_true]
     cases op <;> simp only at hp ⊢ <;> first
      | exact hp.elim
      | (refine bA0 (hrun (.int k _) ?_ hg) (hA5 h fr k _ _ (IntKind.wrap_inR k _)); rw [e1, e2]; simp [binOp, Op.intBits, andV]; done)
      | (refine bA0 (hrun (.int k _) ?_ hg) (hA5 h fr k _ _ (by first | exact hp | exact hp.2)); rw [e1, e2]; simp only [binOp, ne_eq, not_true_eq_false, if_false, Op.intArith, Sem.run_pure]; rw [IntKind.wrap_in hp])
      | (refine bA0 (hrun (.int k _) ?_ hg) (hA5 h fr k _ _ hp.2); rw [e1, e2]; simp [binOp, Op.intDiv, hp.1, IntKind.wrap_in hp.2])
      | (refine bA0 (hrun (.bool _) ?_ hg) (xA5 h fr _); rw [e1, e2]; simp [binOp, Op.intCmp]; done)
      | (refine bA0 (hrun (.bool _) ?_ hg) (xA5 h fr _); rw [e1, e2]; simp only [binOp, Op.intCmp]; by_cases hab : a = b <;> simp [hab])
   · exact hp.elim
 · rename_i a b; have e1 := wA3 hx; have e2 := wA3 hy; have hT' : P.underlying t = some .bool := hT.resolve_right fun k => k a b ⟨rfl, rfl⟩; have hg : (eqGuard op t x y (ρ x) (ρ y)).run P w = .ok () w := by rw [e1, e2]; unfold eqGuard; cases op <;> simp
   cases op <;> simp only at hp ⊢ <;> first
    | exact hp.elim
    | (refine bA0 (hrun (.bool _) ?_ hg) (xA5 h fr _); rw [e1, e2]; first | rw [run_eql_bool w t a b hT'] | rw [run_neq_bool w t a b hT']); cases a <;> cases b <;> rfl
 · rename_i a b; obtain ⟨e1, _⟩ := tC0 hx; obtain ⟨e2, _⟩ := tC0 hy; have hg : (eqGuard op t x y (ρ x) (ρ y)).run P w = .ok () w := by rw [e1, e2]; unfold eqGuard; cases op <;> simp
   cases op <;> simp only at hp ⊢ <;> first
    | exact hp.elim
    | (refine bA0 (hrun (.string (a ++ b)) ?_ hg) (Res.pure h rfl (by unfold repA repC; exact ⟨rfl, by rw [ByteArray.size_append]; exact hp⟩) trivial); rw [e1, e2]; simp only [binOp, Op.stringOp]; rw [if_neg (by have h9 : IntKind.i64.max = 9223372036854775807 := rfl; unfold maxLen at hp; omega)]; rfl)
    | (refine bA0 (hrun (.bool _) ?_ hg) (xA5 h fr _); rw [e1, e2]; simp only [binOp, Op.stringOp, Sem.run_pure, xA6, strLt]; done)
    | (refine bA0 (hrun (.bool _) ?_ hg) (xA5 h fr _); rw [e1, e2]; simp only [binOp, Op.stringOp, Sem.run_pure, xA6]; by_cases hab : a = b <;> simp [hab])
 · exact hp.elim
theorem cD5 (h : RepM cx σ N m w) {t : TypeId} {x : Operand} (ho : o.op = .unOp .not t x) (hx : repA (rx cx σ N m w) (av x) (ρ x))
 (hp : (opEff T G o [av x] m fr).pre) : Runs P w (Res cx σ N m w fr (opEff T G o [av x] m fr)) ((execOp ρ o).run P w) := by
 simp only [opEff, ho] at hp ⊢; split at hp <;> rename_i heq
 · rename_i b; simp at heq; rw [heq] at hx; have e := wA3 hx; exact bA0 (v := .bool (!b)) (w' := w) (by simp [execOp, ho, e, Op.unary]) (rA0 h (kA1 _))
 · exact hp.elim
theorem uD4 (h : RepM cx σ N m w) {t : TypeId} {x : Operand} (ho : o.op = .unOp .neg t x) (hx : repA (rx cx σ N m w) (av x) (ρ x))
 (hp : (opEff T G o [av x] m fr).pre) : Runs P w (Res cx σ N m w fr (opEff T G o [av x] m fr)) ((execOp ρ o).run P w) := by
 simp only [opEff, ho] at hp ⊢; split at hp <;> rename_i heq
 · rename_i k n; simp at heq; rw [heq] at hx; obtain ⟨e, _⟩ := lA1 hx; refine bA0 (v := .int k (-n)) (w' := w) ?_ (hA5 h fr k _ _ hp); simp [execOp, ho, e, Op.unary, Op.intArith, IntKind.wrap_in hp]
 · exact hp.elim
theorem eB4 {x : Rx} : ∀ (a9s : List AV) (vs : List Value), repAs x a9s vs → ∀ (i : Nat) (a : AV), a9s[i]? = some a → ∃ v, vs[i]? = some v ∧ repA x a v
 | [], _, _, i, a, hi => by simp at hi
 | a :: a9s, vs, h, i, b, hi => by
   unfold repAs at h; obtain ⟨v, r, rfl, h1, h2⟩ := h
   cases i with
   | zero => simp at hi; subst hi; exact ⟨v, rfl, h1⟩
   | succ i => simpa using eB4 a9s r h2 i b (by simpa using hi)
theorem eC4 (h : RepM cx σ N m w) {x : Operand} {i : Nat} (ho : o.op = .extract x i) (hx : repA (rx cx σ N m w) (av x) (ρ x))
 (hp : (opEff T G o [av x] m fr).pre) : Runs P w (Res cx σ N m w fr (opEff T G o [av x] m fr)) ((execOp ρ o).run P w) := by
 simp only [opEff, ho] at hp ⊢; split at hp <;> rename_i heq
 · rename_i vs; simp at heq; rw [heq] at hx; unfold repA at hx; obtain ⟨us, e, hus⟩ := hx
   cases hv : vs[i]? with
   | none => rw [hv] at hp; exact hp.elim
   | some a =>
     obtain ⟨v, h1, h2⟩ := eB4 _ _ hus i a hv; exact bA0 (v := v) (w' := w) (by simp [execOp, ho, e, Instr.extract, h1]) (rA0 h h2)
 · exact hp.elim
theorem nB8 (h : RepM cx σ N m w) {x : Operand} (ho : o.op = .nilCheck x) (hx : repA (rx cx σ N m w) (av x) (ρ x))
 (hp : (opEff T G o [av x] m fr).pre) : Runs P w (Res cx σ N m w fr (opEff T G o [av x] m fr)) ((execOp ρ o).run P w) := by
 simp only [opEff, ho] at hp ⊢; split at hp <;> rename_i heq
 · simp at heq; rw [heq] at hx; have hx' := hx; unfold repA repC at hx'; obtain ⟨_, b, _, e⟩ := hx'; exact bA0 (v := ρ x) (w' := w) (by simp [execOp, ho, e]) (rA0 h hx)
 · simp at heq; rw [heq] at hx; have hx' := hx; unfold repA repC at hx'; obtain ⟨b, _, _, e, _⟩ := hx'; exact bA0 (v := ρ x) (w' := w) (by simp [execOp, ho, e]) (rA0 h hx)
 · simp at heq; rw [heq] at hx; have hx' := hx; unfold repA repC at hx'; obtain ⟨b, _, e, _⟩ := hx'; exact bA0 (v := ρ x) (w' := w) (by simp [execOp, ho, e]) (rA0 h hx)
 · simp at heq; rw [heq] at hx; have hx' := hx; unfold repA repC at hx'; obtain ⟨_, b, _, _, _, e⟩ := hx'; exact bA0 (v := ρ x) (w' := w) (by simp [execOp, ho, e]) (rA0 h hx)
 · exact hp.elim
/-! ### loads -/
theorem iB3 {t : TypeId} {d : TypeDesc} (hd : P.underlying t = some d) : (isAgg t).run P w = .ok (aggB d) w := by
 unfold isAgg; rw [Sem.run_bind, run_underlying hd w]; cases d <;> simp [aggB]
theorem tA0 {t : TypeId} {i : TypeInfo} (hi : P.info? t = some i) : (sizeOf t).run P w = .ok i.size w := by
 simp [sizeOf, typeInfo, hi]
theorem gA1 {t : TypeId} {ti : TI} (ht : TIok P t ti) {b o : Nat} {vs : List Value} (hl : vs.length = ti.size) (hc : ∀ j u, vs[j]? = some u → w.cell? ⟨b, o + j, none⟩ = some u) :
 (loadVar t ⟨b, o, none⟩).run P w = .ok (if ti.agg then .agg vs.toArray else vs.getD 0 undef) w := by
 obtain ⟨i, hi, hs, _⟩ := ht.info; obtain ⟨d, hd, ha⟩ := ht.agg; unfold loadVar; rw [Sem.run_bind, iB3 hd, ha, Result.andThen_ok]
 cases hag : ti.agg with
 | true =>
   have hlc := run_loadCells_list (P := P) w ⟨b, o, none⟩ vs (fun j v hv => by rw [oA0]; exact hc j v hv); rw [hl, ← hs] at hlc
   simp [tA0 hi, hlc]
 | false =>
   have h1 := ht.one hag
   match vs, hl with
   | [v], _ =>
     have := hc 0 v rfl; simp only [Nat.add_zero] at this
     simp [this]
   | [], hl => simp [h1] at hl
   | _ :: _ :: _, hl => simp [h1] at hl
theorem vA2 {x : Rx} {ag : Bool} {cs : List C1} {vs : List Value} (h : repCs x cs vs) (h1 : ag = false → cs.length = 1) :
 repA x (avOf ag cs) (if ag then .agg vs.toArray else vs.getD 0 undef) := by
 unfold avOf
 cases ag with
 | true => simp only [if_true]; unfold repA; exact ⟨vs, rfl, h⟩
 | false =>
   match cs, h1 rfl with
   | [c], _ =>
     obtain ⟨v, r, rfl, h2, h3⟩ := repCs_cons.1 h; simp only [Bool.false_eq_true, if_false, List.getD_cons_zero]; unfold repA; exact h2
theorem wA6 {ti : TI} (h : ti.size ≠ 0) : ti ≠ TI.none := fun e => h (by rw [e]; rfl)
theorem fB5 {vs : List Value} {b : Nat} {e : TypeId} (hb : w.heap[b]? = some (.cells vs.toArray e (0, 0))) (j : Nat) : w.cell? ⟨b, j, none⟩ = vs[j]? := by
 rw [cell_of_row w b j _ e (0, 0) hb]; simp
theorem jC7 (h : RepM cx σ N m w) {id : Nat} {e : TypeId} {u : Ty} {xs : List u.den} (hm : m id = .row e u xs) {b n c : Nat} (hσ : σ id = .slice (some ⟨b, 0, none⟩) n c) {i : Nat} (hi : i < xs.length) :
 ∃ vs, ro w (Owned cx σ m) u xs[i] vs ∧ ∀ j v, vs[j]? = some v → w.cell? ⟨b, i * u.n + j, none⟩ = some v := by
 have hb := h.blk id; rw [hm] at hb; obtain ⟨a, cap, flat, e1, e2, e3, e4, e5⟩ := yA1 hb; rw [hσ] at e1; simp only [Value.slice.injEq] at e1; obtain ⟨rfl, rfl, rfl⟩ := e1
 rcases e5 with ⟨_, rfl, _⟩ | ⟨g, e6, _, e7⟩
 · cases hi
 · simp only [Option.some.injEq, Addr.mk.injEq, and_true] at e6; subst e6; obtain ⟨pre, vs, post, he, hl, hr, _, _⟩ := sA2 (fun x c => qA0 u x c) e4 hi; refine ⟨vs, hr, fun j v hv => e7 _ v ?_⟩; have hj := (List.getElem?_eq_some_iff.1 hv).1; rw [he, List.getElem?_append_right (by omega), hl, Nat.add_sub_cancel_left, List.getElem?_append_left hj]; exact hv
theorem kA6 (h : RepM cx σ N m w) {id : Nat} {u : Ty} {xs : List u.den} (hm : m id = .settled u xs) {b o n c : Nat} (hσ : σ id = .slice (some ⟨b, o, none⟩) n c) {i : Nat} (hi : i < xs.length) :
 ∃ vs, ro w (Owned cx σ m) u xs[i] vs ∧ CellsAt w (Owned cx σ m) b (o + i * u.n) vs := by
 have hb := h.blk id; rw [hm] at hb; obtain ⟨a, len, cap, e, h2, h3, h4, h5⟩ := hb; simp [rx, hσ] at e
 rcases h5 with h7 | ⟨b', o', flat, h6, h7, h8⟩
 · rw [h7] at h3; rw [h2] at h3; omega
 · obtain ⟨e1, e2⟩ : b = b' ∧ o = o' := by rw [h6] at e; simp at e; exact e.1
   subst e1; subst e2; obtain ⟨pre, vs, post, he, hl, hr, _, _⟩ := sA2 (fun x c => qA0 u x c) h7 hi; refine ⟨vs, hr, fun j v hv => ?_⟩; have := h8 (i * u.n + j) v (by
    rw [he, List.getElem?_append_right (by omega), hl, show i * u.n + j - i * u.n = j by omega]; have hj : j < vs.length := (List.getElem?_eq_some_iff.1 hv).1; rw [List.getElem?_append_left hj]; exact hv)
   rwa [← Nat.add_assoc] at this
theorem fA8 (h : RepM cx σ N m w) {fid : Nat} {e : TypeId} {u : Ty} {xss : List (List u.den)} (hm : m fid = .fam e u xss) {f : Fn} {vs : Array Value} (hσ : σ fid = .func f #[] vs) {i : Nat} {v : Value} (hv : vs.toList[i]? = some v) :
 i < xss.length ∧ famRep (rx cx σ N m w) e u xss vs.toList ∧ ∃ flat, RowR w e u.n v (xss.getD i []).length flat ∧ roAll (ro w (Owned cx σ m) u) (xss.getD i []) flat ∧ v.oneCell' = true := by
 have hb := h.blk fid; rw [hm] at hb; obtain ⟨f', vs', c1, c2⟩ := hb; simp only [rx] at c1; rw [hσ] at c1; cases c1; have hil : i < xss.length := by
  have := (List.getElem?_eq_some_iff.1 hv).1; rw [← c2.len]; exact this
 have hxi : xss[i]? = some (xss.getD i []) := by rw [List.getD_eq_getElem?_getD, List.getElem?_eq_getElem hil]; rfl
 obtain ⟨r1, flat, r2, r3⟩ := c2.row i _ _ hxi hv; exact ⟨hil, c2, flat, r2, r3, r1⟩
theorem aB6 (h : RepM cx σ N m w) {fid : Nat} {e : TypeId} {u : Ty} {xss : List (List u.den)} (hm : m fid = .fam e u xss) {f : Fn} {vs : Array Value} (hσ : σ fid = .func f #[] vs) {i : Nat} {v : Value} (hv : vs.toList[i]? = some v) :
 ∃ a c, v = .slice a (xss.getD i []).length c ∧ (xss.getD i []).length ≤ c ∧ c ≤ maxLen ∧ (a = none → (xss.getD i []).length = 0) ∧ (0 < (xss.getD i []).length → ∃ b, a = some ⟨b, 0, none⟩) := by
 obtain ⟨_, _, flat, r2, _, _⟩ := fA8 h hm hσ hv
 rcases r2.2 with ⟨q, a, q1⟩ | ⟨g, cap, cur, hz, q1, _, q2, q3, _⟩
 · exact ⟨a, 0, by rw [q]; exact q1, by omega, by simp [maxLen], fun _ => q, fun k => by omega⟩
 · exact ⟨_, cap, q1, q2, q3, (fun k => by cases k), fun _ => ⟨g, rfl⟩⟩
theorem pC5 (h : RepM cx σ N m w) {fid : Nat} {e : TypeId} {u : Ty} {xss : List (List u.den)} (hm : m fid = .fam e u xss) {f : Fn} {vs : Array Value} (hσ : σ fid = .func f #[] vs) {i b n c : Nat} (hv : vs.toList[i]? = some (.slice (some ⟨b, 0, none⟩) n c)) {k : Nat} (hk : k < (xss.getD i []).length) :
 ∃ ws, ro w (Owned cx σ m) u (xss.getD i [])[k] ws ∧ ∀ j v, ws[j]? = some v → w.cell? ⟨b, k * u.n + j, none⟩ = some v := by
 obtain ⟨_, _, flat, r2, r3, _⟩ := fA8 h hm hσ hv; have hbk : blkOf (.slice (some ⟨b, 0, none⟩) n c) = some b := by
  rcases r2.2 with ⟨q, _⟩ | ⟨g, cap, cur, hz, q1, _⟩
  · omega
  · rw [q1]; rw [q1] at hv; cases q1; exact gA0 hz
 obtain ⟨pre, ws, post, he, hl, hr, _, _⟩ := sA2 (fun x c => qA0 u x c) r3 hk; refine ⟨ws, hr, fun j v hv' => hA1 r2 hbk _ v ?_⟩; have hj := (List.getElem?_eq_some_iff.1 hv').1; rw [he, List.getElem?_append_right (by omega), hl, Nat.add_sub_cancel_left, List.getElem?_append_left hj]; exact hv'
theorem pA4 {α : Type} (xs : List α) (i : Nat) (d : α) (h : i < xs.length) : xs.getD i d = xs[i] := by simp [List.getD, h]
theorem lB3 (h : RepM cx σ N m w) {t : TypeId} {x : Operand} (ho : o.op = .load t x) (ht : TabOK P T) {c : C1} (hx : repC (rx cx σ N m w) c (ρ x))
 (hp : (loadE m (TI.of T t) c).pre) : Runs P w (Res cx σ N m w fr (loadE m (TI.of T t) c)) ((execOp ρ o).run P w) := by
 generalize hti : TI.of T t = ti at *; have hrun : ∀ (b q : Nat) (vs : List Value), 0 < ti.size → ρ x = .pointer (some ⟨b, q, none⟩) → vs.length = ti.size → (∀ j u, vs[j]? = some u → w.cell? ⟨b, q + j, none⟩ = some u) →
  (execOp ρ o).run P w = .ok (.value (if ti.agg then .agg vs.toArray else vs.getD 0 undef)) w := by
  intro b q vs hne e1 e2 e3; have := gA1 (P := P) (w := w) (hti ▸ TI.of_ok ht t (hti.symm ▸ wA6 (by omega))) e2 e3; simp [execOp, ho, Instr.loadAt, Instr.sureAddr, e1, this]
 have hone : 0 < ti.size → ti.agg = false → ti.size = 1 := fun hne => (hti ▸ TI.of_ok ht t (hti.symm ▸ wA6 (by omega))).one; have elem : ∀ (u : Ty) (y : u.den) (vs : List Value) (b q off : Nat) (p : Prop), 0 < ti.size → off + ti.size ≤ u.n → ρ x = .pointer (some ⟨b, q + off, none⟩) → ro w (Owned cx σ m) u y vs →
  (∀ j v, vs[j]? = some v → w.cell? ⟨b, q + j, none⟩ = some v) →
  Runs P w (Res cx σ N m w fr ⟨p, avOf ti.agg (((expl u y).drop off).take ti.size), [], Wf u y⟩) ((execOp ρ o).run P w) := by
  intro u y vs b q off p hpos hle e1 hr hca; have hlen := qA0 u y vs hr; have hcs := vA0 (x := rx cx σ N m w) u y vs hr; have hd := lA0 ti.size _ _ (mA0 off _ _ hcs); refine bA0 (hrun b (q + off) ((vs.drop off).take ti.size) hpos e1 (by simp; omega) (fun j v hv => ?_)) (Res.pure h rfl (vA2 hd (fun hg => by simp [rA1]; have := hone hpos hg; omega)) (wA5 u y vs hr)); rw [List.getElem?_take] at hv; split at hv
  · rw [List.getElem?_drop] at hv; rw [Nat.add_assoc]; exact hca _ _ hv
  · cases hv
 unfold loadE at hp ⊢; split at hp
 · rename_i id off; split at hp
   · rename_i e cs hm
     try simp only [hm]
     split at hp
     · rename_i hle; simp only [hle, and_self, if_true]; unfold repC at hx; obtain ⟨hn, b, e1, e2⟩ := hx; have hb := h.blk id; rw [hm] at hb; obtain ⟨b', vs, e3, e4, hcs, h1⟩ := hb; simp only [rx] at e1 e3 e4; rw [e1] at e3; simp at e3; subst e3; have hlen := jA0 _ _ hcs; have hd := lA0 ti.size _ _ (mA0 off _ _ hcs); refine bA0 (hrun b off ((vs.drop off).take ti.size) hle.1 e2 (by simp; omega) (fun j u hu => ?_)) (rA0 h (vA2 hd (fun hg => by simp; have := hone hle.1 hg; omega))); rw [fB5 e4]; rw [List.getElem?_take] at hu; split at hu
       · rwa [List.getElem?_drop] at hu
       · cases hu
     · exact hp.elim
   · rename_i cs hm
     try simp only [hm]
     split at hp
     · rename_i hle; simp only [hle, and_self, if_true]; unfold repC at hx; obtain ⟨hn, b, e1, e2⟩ := hx; have hb := h.blk id; rw [hm] at hb; obtain ⟨b', vs, e3, hcs, hca⟩ := hb; simp only [rx] at e1 e3 hca; rw [e1] at e3; simp at e3; subst e3; have hlen := jA0 _ _ hcs; have hd := lA0 ti.size _ _ (mA0 off _ _ hcs); refine bA0 (hrun b off ((vs.drop off).take ti.size) hle.1 e2 (by simp; omega) (fun j u hu => ?_)) (rA0 h (vA2 hd (fun hg => by simp; have := hone hle.1 hg; omega))); rw [List.getElem?_take] at hu; split at hu
       · rw [List.getElem?_drop] at hu; have := (hca _ u hu).2
         rwa [Nat.zero_add] at this
       · cases hu
     · exact hp.elim
   · exact hp.elim
 · rename_i cs off; split at hp
   · rename_i hle; simp only [hle, and_self, if_true]; unfold repC at hx; obtain ⟨b, vs, e1, hcs, hca⟩ := hx; simp only [rx] at hca; have hlen := jA0 _ _ hcs; have hd := lA0 ti.size _ _ (mA0 off _ _ hcs); refine bA0 (hrun b off ((vs.drop off).take ti.size) hle.1 e1 (by simp; omega) (fun j u hu => ?_)) (rA0 h (vA2 hd (fun hg => by simp; have := hone hle.1 hg; omega))); rw [List.getElem?_take] at hu; split at hu
     · rw [List.getElem?_drop] at hu; have := (hca _ u hu).2
       rwa [Nat.zero_add] at this
     · cases hu
   · exact hp.elim
 · rename_i u y off; split at hp
   · rename_i hle; simp only [hle, and_self, if_true]; unfold repC at hx; obtain ⟨b, q, vs, e1, hr, hca⟩ := hx; exact elem u y vs b q off True hle.1 hle.2 e1 hr (fun j v hv => (hca j v hv).2)
   · exact hp.elim
 · rename_i id sz i off; unfold repC at hx; obtain ⟨hn, b, n, c, e1, e2⟩ := hx; simp only [rx] at e1; split at hp
   · rename_i e u xs hm
     try simp only [hm]
     split at hp
     · rename_i hle; obtain ⟨h1, h2, rfl⟩ := hle; obtain ⟨hi0, hi1⟩ := hp; have hi : i.toNat < xs.length := by omega
       obtain ⟨vs, hr, hca⟩ := jC7 h hm e1 hi; simp only [h1, h2, and_self, if_true]; rw [pA4 xs i.toNat u.dflt hi]; exact elem u _ vs b (i.toNat * u.n) off _ h1 h2 e2 hr hca
     · exact hp.elim
   · rename_i u xs hm
     try simp only [hm]
     split at hp
     · rename_i hle; obtain ⟨h1, h2, rfl⟩ := hle; obtain ⟨hi0, hi1⟩ := hp; have hi : i.toNat < xs.length := by omega
       obtain ⟨vs, hr, hca⟩ := kA6 h hm e1 hi; simp only [h1, h2, and_self, if_true]; rw [pA4 xs i.toNat u.dflt hi]; refine elem u _ vs b (i.toNat * u.n) off _ h1 h2 e2 hr (fun j v hv => ?_); have := (hca j v hv).2
       rwa [Nat.zero_add] at this
     · exact hp.elim
   · exact hp.elim
 · rename_i fid i sz k off; unfold repC at hx; obtain ⟨hn, f, vs, b, n, c, e1, e2, e3⟩ := hx; simp only [rx] at e1; split at hp
   · rename_i e u xss hm
     try simp only [hm]
     split at hp
     · rename_i hle; obtain ⟨h1, h2, rfl⟩ := hle; obtain ⟨hi0, hi1⟩ := hp; have hi : k.toNat < (xss.getD i []).length := by omega
       obtain ⟨ws, hr, hca⟩ := pC5 h hm e1 e2 hi; simp only [h1, h2, and_self, if_true]; rw [pA4 _ k.toNat u.dflt hi]; exact elem u _ ws b (k.toNat * u.n) off _ h1 h2 e3 hr hca
     · exact hp.elim
   · exact hp.elim
 · exact hp.elim
theorem uD2 (hgl : GLe G.gl cx.gv) (h : RepM cx σ N m w) {t : TypeId} {x : Operand} (h0 : wfOf G o.dst = 0) (ho : o.op = .load t x) (ht : TabOK P T) (hx : repA (rx cx σ N m w) (av x) (ρ x))
 (hp : (opEff T G o [av x] m fr).pre) : Runs P w (Res cx σ N m w fr (opEff T G o [av x] m fr)) ((execOp ρ o).run P w) := by
 simp only [opEff, ho] at hp ⊢; split at hp <;> rename_i heq
 · rename_i c; simp at heq; rw [heq] at hx; unfold repA at hx; simp only [h0] at hp ⊢; unfold loadX at hp ⊢; split at hp
   · rename_i g
     cases hf : findL G.gl g with
     | none => rw [hf] at hp; exact hp.elim
     | some v =>
       rw [hf] at hp; obtain ⟨vt, vx⟩ := v
       match vx, hf, hp with
       | [], _, hp => exact hp.elim
       | _ :: _ :: _, _, hp => exact hp.elim
       | [y], hf, hp =>
         obtain ⟨hno, hnF, hlt, vs, ee, hh, hw, hro⟩ := h.gl_not (hgl g _ hf); unfold repC at hx; have hrp : repC (rx cx σ N m w) (.rp vt y 0) (ρ x) := by
          obtain ⟨pre, cv, post, he, hpl, hr1, _, _⟩ := sA2 (fun x c => qA0 vt x c) hro (i := 0) (by simp); unfold repC; refine ⟨g, 0, cv, by rw [hx], hr1, fun j z hz => ⟨?_, ?_⟩⟩
          · rintro (q | ⟨id, q1, q2⟩)
            · exact hnF q
            · exact hno id q1 q2
          · have hj : j < cv.length := (List.getElem?_eq_some_iff.1 hz).1; have hpl' : pre.length = 0 := by omega
            have hq : vs.toList[0 + j]? = some z := by
             rw [he, List.getElem?_append_right (by omega), hpl', show 0 + j - 0 = j by omega, List.getElem?_append_left hj]; exact hz
            simp only [rx, World.cell?, hw]; simpa using hq
         exact lB3 h ho ht hrp hp
   · exact lB3 h ho ht hx hp
 · exact hp.elim
end
end Go.Ev
