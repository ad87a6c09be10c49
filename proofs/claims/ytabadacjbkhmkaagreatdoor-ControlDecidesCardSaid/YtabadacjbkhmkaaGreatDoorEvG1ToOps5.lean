/- Part. -/
import Derived.Test.YtabadacjbkhmkaaGreatDoorEvOps3ToOps4
set_option linter.all false
namespace Go.Ev
section
variable {cx : Cx} {σ : Nat → Value} {N : Nat → Prop} {m : Mem} {w : World} {P : Program} {T : Tab} {G : Env} {o : Oper} {fr : Nat} {ρ : Operand → Value} {av : Operand → AV}
theorem mB2 : ∀ {t : Ty} {p : Nat} {u : Ty}, slAt t = some (p, u) → p < t.n
 | .sl _, p, u, h => by simp [slAt] at h; simp [Ty.n]; omega
 | .pair a b, p, u, h => by
   simp only [slAt] at h
   cases ha : slAt a with
   | some r =>
     rw [ha] at h; simp only [Option.some.injEq] at h; subst h; have := mB2 ha
     simp [Ty.n]; omega
   | none =>
     rw [ha] at h
     cases hb : slAt b with
     | some r =>
       rw [hb] at h; simp only [Option.some.injEq, Prod.mk.injEq] at h; have := mB2 (p := r.1) (u := r.2) hb
       simp [Ty.n]; omega
     | none => rw [hb] at h; cases h
 | .int _, _, _, h => by cases h
 | .bool, _, _, h => by cases h
 | .str, _, _, h => by cases h
 | .unit, _, _, h => by cases h
theorem wB0 {w : World} {O : Nat → Prop} {v : Value} {u : Ty} {ys : List u.den} (hv : ro w O (.sl u) ys [v]) : ∀ {t : Ty} {p : Nat} {x : t.den} {c : List Value}, slAt t = some (p, u) → c[p]? = some v → ro w O t x (c.set p (.slice none 0 0)) → ro w O t (putSl u ys t x) c
 | .sl u', p, x, c, h, hc, hr => by
   simp only [slAt, Option.some.injEq, Prod.mk.injEq] at h; obtain ⟨rfl, rfl⟩ := h; have hl := qA0 _ _ _ hr; simp only [List.length_set, Ty.n] at hl; have e : c = [v] := by
    match c, hl, hc with
    | [a], _, hc => simp at hc; rw [hc]
   rw [e]; simp only [putSl, dite_true]
   exact hv
 | .pair a b, p, x, c, h, hc, hr => by
   simp only [slAt] at h; obtain ⟨c1, c2, e, h1, h2⟩ := hr; have l1 := qA0 _ _ _ h1; simp only [putSl]
   cases ha : slAt a with
   | some r =>
     rw [ha] at h; simp only [Option.some.injEq] at h; subst h; have hp := mB2 ha; rw [if_pos (by rfl)]; have e1 : c.take a.n = (c.take a.n) := rfl; have es : (c.set p (.slice none 0 0)).take a.n = c1 := by rw [e, List.take_left' l1]
     have ed : (c.set p (.slice none 0 0)).drop a.n = c2 := by rw [e, List.drop_left' l1]
     rw [List.take_set] at es; rw [List.drop_set_of_lt (by omega)] at ed; refine ⟨c.take a.n, c.drop a.n, (List.take_append_drop _ _).symm, wB0 hv ha ?_ (by rw [es]; exact h1), by rw [ed]; exact h2⟩
     rw [List.getElem?_take_of_lt hp]; exact hc
   | none =>
     rw [ha] at h
     cases hb : slAt b with
     | none => rw [hb] at h; cases h
     | some r =>
       rw [hb] at h; simp only [Option.some.injEq, Prod.mk.injEq] at h; obtain ⟨rfl, e2⟩ := h; rw [if_neg (by simp)]; have es : (c.set (a.n + r.1) (.slice none 0 0)).take a.n = c1 := by rw [e, List.take_left' l1]
       have ed : (c.set (a.n + r.1) (.slice none 0 0)).drop a.n = c2 := by rw [e, List.drop_left' l1]
       rw [List.take_set, List.set_eq_of_length_le (by simp; omega)] at es; rw [List.drop_set, if_neg (by omega), Nat.add_sub_cancel_left] at ed; refine ⟨c.take a.n, c.drop a.n, (List.take_append_drop _ _).symm, by rw [es]; exact h1, wB0 hv (p := r.1) (by rw [hb, ← e2]) ?_ (by rw [ed]; exact h2)⟩
       rw [List.getElem?_drop]; exact hc
 | .int _, _, _, _, h, _, _ => by cases h
 | .bool, _, _, _, h, _, _ => by cases h
 | .str, _, _, _, h, _, _ => by cases h
 | .unit, _, _, _, h, _, _ => by cases h
theorem oA9 {u t : Ty} {xs : List t.den} {yss : List (List u.den)} (h : yss.length = xs.length) : (putSls u t xs yss).length = xs.length := by
 simp [putSls, h]
theorem qA8 {x : Rx} {w' : World} {O' : Nat → Prop} (hk : Keep x.w w' x.O O') {t u : Ty} {p : Nat} (ht : slAt t = some (p, u)) : ∀ (xs : List t.den) (vs : List Value) (yss : List (List u.den)) (flat : List Value), vs.length = xs.length → yss.length = xs.length →
 (∀ (i : Nat) ys v, yss[i]? = some ys → vs[i]? = some v → ro w' O' (.sl u) ys [v]) → roAll (elG x t p) (xs.zip (vs.map some)) flat → roAll (ro w' O' t) (putSls u t xs yss) flat
 | [], vs, yss, flat, h1, h2, _, h => by
   simp only [putSls, List.zip_nil_left, List.map_nil] at h ⊢; exact h
 | x0 :: xs, [], yss, flat, h1, _, _, _ => by simp at h1
 | x0 :: xs, v :: vs, [], flat, _, h2, _, _ => by simp at h2
 | x0 :: xs, v :: vs, ys :: yss, flat, h1, h2, hv, h => by
   simp only [List.map_cons, List.zip_cons_cons] at h; obtain ⟨c, d, e, hc, hr⟩ := h; have := qA8 hk ht xs vs yss d (by simpa using h1) (by simpa using h2) (fun i ys v h1 h2 => hv (i + 1) ys v (by simpa using h1) (by simpa using h2)) hr; simp only [putSls, List.zip_cons_cons, List.map_cons] at this ⊢; exact ⟨c, d, e, wB0 (hv 0 ys v (by simp) (by simp)) ht (hc.2.1 v rfl) (hA0 hk _ _ _ hc.2.2.2), this⟩
theorem rB0 {x : Rx} {t : Ty} {p : Nat} (q : t.den × Option Value) (c : List Value) (h : elG x t p q c) : c.length = t.n := by
 have := qA0 _ _ _ h.2.2.2
 rwa [List.length_set] at this
theorem tC4 (h : RepM cx σ N m w) (hfr0 : N fr) {id fid : Nat} {e e2 : TypeId} {t u : Ty} {p : Nat} {xs : List t.den} {xss : List (List u.den)} (hn : ¬ N id) (hm : m id = .rowg e t p fid xs none) (hf : m fid = .fam e2 u xss) (ht : slAt t = some (p, u)) {q : Prop} (hq : q) {pr : Prop} :
 Res cx σ N m w fr ⟨pr, .one (.row fr), [(fid, .dead), (id, .dead), (fr, .row e t (putSls u t xs xss))], q⟩ (σ id) w := by
 have hb := h.blk id; rw [hm] at hb; obtain ⟨f, vs, flat, b1, b2, b3, b4, b5⟩ := hb; simp only [rx] at b1 b2 b4; have hb2 := h.blk fid; rw [hf] at hb2; obtain ⟨f', vs', c1, c2⟩ := hb2; simp only [rx] at c1; rw [b2] at c1; cases c1; have ne1 : id ≠ fid := fun k => by rw [k, hf] at hm; cases hm
 have ne2 : id ≠ fr := fun k => hn (k ▸ hfr0); have ne3 : fid ≠ fr := fun k => b1 (k ▸ hfr0); have oid : own (m id) = true := by rw [hm]; rfl
 have ofid : own (m fid) = true := by rw [hf]; rfl
 have hxl : xss.length = xs.length := by rw [← b3]; exact c2.len.symm
 let m' : Mem := upd (upd (upd m fid .dead) id .dead) fr (.row e t (putSls u t xs xss))
 have m1 : m' fid = .dead := by simp only [m']; rw [iA0 _ _ ne3, iA0 _ _ (fun k => ne1 k.symm), upd_same]
 have m2 : m' id = .dead := by simp only [m']; rw [iA0 _ _ ne2, upd_same]
 have m3 : m' fr = .row e t (putSls u t xs xss) := upd_same _ _ _; have m4 : ∀ i, i ≠ id → i ≠ fid → i ≠ fr → m' i = m i := fun i h1 h2 h3 => by simp only [m']; rw [iA0 _ _ h3, iA0 _ _ h1, iA0 _ _ h2]
 let σ' : Nat → Value := upd σ fr (σ id)
 have s1 : σ' fr = σ id := upd_same _ _ _; have s2 : ∀ i, i ≠ fr → σ' i = σ i := fun i h => iA0 _ _ h; obtain ⟨k1, k2⟩ := h.step (σ' := σ') (N' := Nx N fr) (m' := m') (w' := w) (fun i => i = id ∨ i = fid ∨ i = fr) (fun i k => k.1)
  (fun i k => by
    have h1 : i ≠ fr := fun e => k.2 ⟨by omega, by omega⟩; rw [m4 i (fun e => hn (e ▸ k.1)) (fun e => b1 (e ▸ k.1)) h1]; exact h.fresh i k.1)
  (fun i k => by simp only [not_or] at k; exact ⟨m4 i k.1 k.2.1 k.2.2, s2 i k.2.2⟩)
  (fun i k => s2 i (fun e => k (e ▸ hfr0)))
  (fun b _ _ => rfl) ⟨Nat.le_refl _, Nat.le_refl _⟩ rfl rfl rfl
  (fun i b hi ho hbb => by
    rcases hi with rfl | rfl | rfl
    · rw [m2] at ho; cases ho
    · rw [m1] at ho; cases ho
    · rw [s1] at hbb; exact .inr ⟨id, .inl rfl, oid, hbb⟩)
  (fun i i' b hi hi' ho ho' _ _ => by
    rcases hi with rfl | rfl | rfl <;> rcases hi' with rfl | rfl | rfl <;> first | rfl | (rw [m2] at ho; cases ho) | (rw [m1] at ho; cases ho) | (rw [m2] at ho'; cases ho') | (rw [m1] at ho'; cases ho'))
  (fun i hi => by
    rcases hi with rfl | rfl | rfl
    · rw [s2 _ ne2]; exact h.hone _
    · rw [s2 _ ne3]; exact h.hone _
    · rw [s1]; exact h.hone _)
  (fun hk i hi => by
    rcases hi with rfl | rfl | rfl
    · rw [m2]; trivial
    · rw [m1]; trivial
    · rw [m3]; refine ⟨xs.length, flat, (oA9 hxl).symm, by simp only [rx]; rw [s1]; exact b4, ?_⟩; refine qA8 (x := rx cx σ N m w) hk.k ht xs vs.toList xss flat b3 hxl (fun ii ys v h1 h2 => ?_) b5; obtain ⟨g1, fl2, g2, g3⟩ := c2.row ii ys v h1 h2; have hvb : ∀ b, blkOf v = some b → hb (σ fid) b := fun b hb => by rw [b2]; exact hb_fam.2 ⟨v, List.mem_of_getElem? h2, hb⟩
      obtain ⟨a, cap, fl, e1, e2, e3, e4, e5⟩ : ∃ a cap fl, v = .slice a ys.length cap ∧ ys.length ≤ cap ∧ cap ≤ maxLen ∧ roAll (ro w (Owned cx σ m) u) ys fl ∧ (cap = 0 ∨ ∃ g, a = some ⟨g, 0, none⟩ ∧ blkOf v = some g ∧ ∀ j q, fl[j]? = some q → w.cell? ⟨g, j, none⟩ = some q) := by
       rcases g2.2 with ⟨q1, a, q2⟩ | ⟨g, cap, cur, q1, q2, q3, q4, q5, q6, q7⟩
       · have : ys = [] := List.eq_nil_of_length_eq_zero q1; subst this; exact ⟨a, 0, fl2, q2, Nat.le_refl _, by simp [maxLen], g3, .inl rfl⟩
       · exact ⟨_, cap, fl2, q2, q4, q5, g3, .inr ⟨g, rfl, by rw [q2]; exact gA0 q1, fun j q hq => hA1 g2 (by rw [q2]; exact gA0 q1) j q hq⟩⟩
      refine ⟨a, ys.length, cap, by rw [e1], rfl, e2, e3, e5.imp (fun k => k) ?_⟩; rintro ⟨g, rfl, e6, e7⟩; refine ⟨g, 0, fl, rfl, fA0 (hA0 hk.k u) _ _ e4, fun j q hq => ⟨?_, by rw [Nat.zero_add]; exact e7 j q hq⟩⟩; rintro (hF | ⟨j, ho, hbj⟩)
      · exact h.notF fid g ofid (hvb g e6) hF
      · by_cases q1 : j = id
        · subst q1; rw [m2] at ho; cases ho
        · by_cases q2 : j = fid
          · subst q2; rw [m1] at ho; cases ho
          · by_cases q3 : j = i
            · rw [q3, s1] at hbj; exact ne1 (h.inj _ _ g oid ofid hbj (hvb g e6))
            · rw [m4 j q1 q2 q3] at ho; rw [s2 j q3] at hbj; exact q2 (h.inj _ _ g ho ofid hbj (hvb g e6)))
 refine ⟨σ', k1, k2, ?_, hq⟩; unfold repA repC; exact ⟨fun k => k.2 ⟨by omega, by omega⟩, s1.symm⟩
theorem bB3 (h : RepM cx σ N m w) {id fid : Nat} {e e2 : TypeId} {t u : Ty} {p : Nat} {xs : List t.den} {xss : List (List u.den)} (hn : ¬ N id) (hm : m id = .rowg e t p fid xs none) (hf : m fid = .fam e2 u xss) (ht : slAt t = some (p, u)) :
 RepM cx σ N (upd (upd m fid .dead) id (.row e t (putSls u t xs xss))) w ∧ Rx.Keeps (rx cx σ N m w) (rx cx σ N (upd (upd m fid .dead) id (.row e t (putSls u t xs xss))) w) := by
 have hb := h.blk id; rw [hm] at hb; obtain ⟨f, vs, flat, b1, b2, b3, b4, b5⟩ := hb; simp only [rx] at b1 b2 b4; have hb2 := h.blk fid; rw [hf] at hb2; obtain ⟨f', vs', c1, c2⟩ := hb2; simp only [rx] at c1; rw [b2] at c1; cases c1; have ne1 : id ≠ fid := fun k => by rw [k, hf] at hm; cases hm
 have oid : own (m id) = true := by rw [hm]; rfl
 have ofid : own (m fid) = true := by rw [hf]; rfl
 have hxl : xss.length = xs.length := by rw [← b3]; exact c2.len.symm
 let m' : Mem := upd (upd m fid .dead) id (.row e t (putSls u t xs xss))
 have m1 : m' fid = .dead := by simp only [m']; rw [iA0 _ _ (fun k => ne1 k.symm), upd_same]
 have m3 : m' id = .row e t (putSls u t xs xss) := upd_same _ _ _; have m4 : ∀ i, i ≠ id → i ≠ fid → m' i = m i := fun i h1 h2 => by simp only [m']; rw [iA0 _ _ h1, iA0 _ _ h2]
 exact h.step (σ' := σ) (N' := N) (m' := m') (w' := w) (fun i => i = id ∨ i = fid) (fun i k => k)
  (fun i k => by rw [m4 i (fun e => hn (e ▸ k)) (fun e => b1 (e ▸ k))]; exact h.fresh i k)
  (fun i k => by simp only [not_or] at k; exact ⟨m4 i k.1 k.2, rfl⟩)
  (fun i k => rfl)
  (fun b _ _ => rfl) ⟨Nat.le_refl _, Nat.le_refl _⟩ rfl rfl rfl
  (fun i b hi ho hbb => by
    rcases hi with rfl | rfl
    · exact .inr ⟨_, .inl rfl, oid, hbb⟩
    · rw [m1] at ho; cases ho)
  (fun i i' b hi hi' ho ho' _ _ => by
    rcases hi with rfl | rfl <;> rcases hi' with rfl | rfl <;> first | rfl | (rw [m1] at ho; cases ho) | (rw [m1] at ho'; cases ho'))
  (fun i hi => h.hone i)
  (fun hk i hi => by
    rcases hi with rfl | rfl
    · rw [m3]; refine ⟨xs.length, flat, (oA9 hxl).symm, by simp only [rx]; exact b4, ?_⟩; refine qA8 (x := rx cx σ N m w) hk.k ht xs vs.toList xss flat b3 hxl (fun ii ys v h1 h2 => ?_) b5; obtain ⟨g1, fl2, g2, g3⟩ := c2.row ii ys v h1 h2; have hvb : ∀ b, blkOf v = some b → hb (σ fid) b := fun b hb => by rw [b2]; exact hb_fam.2 ⟨v, List.mem_of_getElem? h2, hb⟩
      obtain ⟨a, cap, fl, e1, e2, e3, e4, e5⟩ : ∃ a cap fl, v = .slice a ys.length cap ∧ ys.length ≤ cap ∧ cap ≤ maxLen ∧ roAll (ro w (Owned cx σ m) u) ys fl ∧ (cap = 0 ∨ ∃ g, a = some ⟨g, 0, none⟩ ∧ blkOf v = some g ∧ ∀ j q, fl[j]? = some q → w.cell? ⟨g, j, none⟩ = some q) := by
       rcases g2.2 with ⟨q1, a, q2⟩ | ⟨g, cap, cur, q1, q2, q3, q4, q5, q6, q7⟩
       · have : ys = [] := List.eq_nil_of_length_eq_zero q1; subst this; exact ⟨a, 0, fl2, q2, Nat.le_refl _, by simp [maxLen], g3, .inl rfl⟩
       · exact ⟨_, cap, fl2, q2, q4, q5, g3, .inr ⟨g, rfl, by rw [q2]; exact gA0 q1, fun j q hq => hA1 g2 (by rw [q2]; exact gA0 q1) j q hq⟩⟩
      refine ⟨a, ys.length, cap, by rw [e1], rfl, e2, e3, e5.imp (fun k => k) ?_⟩; rintro ⟨g, rfl, e6, e7⟩; refine ⟨g, 0, fl, rfl, fA0 (hA0 hk.k u) _ _ e4, fun j q hq => ⟨?_, by rw [Nat.zero_add]; exact e7 j q hq⟩⟩; rintro (hF | ⟨j, ho, hbj⟩)
      · exact h.notF fid g ofid (hvb g e6) hF
      · by_cases q2 : j = fid
        · subst q2; rw [m1] at ho; cases ho
        · by_cases q1 : j = i
          · rw [q1] at hbj; exact ne1 (h.inj _ _ g oid ofid hbj (hvb g e6))
          · rw [m4 j q1 q2] at ho; exact q2 (h.inj _ _ g ho ofid hbj (hvb g e6))
    · rw [m1]; trivial)
end
end Go.Ev

namespace Go.Ev
section
variable {cx : Cx} {σ : Nat → Value} {N : Nat → Prop} {m : Mem} {w : World} {P : Program} {T : Tab} {G : Env} {o : Oper} {fr : Nat} {ρ : Operand → Value} {av : Operand → AV}
theorem dB9 (h : RepM cx σ N m w) {c : C1} {n : Nat} {v : Value} (hl : lenOf m c = some n) (hc : repC (rx cx σ N m w) c v) :
 ∃ a cap, v = .slice a n cap ∧ n ≤ maxLen := by
 have key : ∀ (u : Ty) (xs : List u.den), view m u c = some xs → xs.length = n → ∃ a cap, v = .slice a n cap ∧ n ≤ maxLen := by
  intro u xs hv hn; obtain ⟨a, k, cap, flat, e1, e2, e3, e4, _⟩ := rA4 h hv hc; exact ⟨a, cap, by rw [e1, e2, hn], by omega⟩
 cases c with
 | cs id k =>
   simp [lenOf] at hl; subst hl; unfold repC at hc; obtain ⟨_, h32, _, b, _, e⟩ := hc
   exact ⟨_, _, e, by simp only [maxLen]; omega⟩
 | nilsl =>
   simp [lenOf] at hl; subst hl
   exact key .unit [] rfl rfl
 | sl u xs cp =>
   simp [lenOf] at hl
   exact key u xs (by simp [view, castTy]) hl
 | row id =>
   simp only [lenOf] at hl
   cases hm : m id with
   | row e u xs =>
     rw [hm] at hl
     exact key u xs (by simp [view, castTy, hm]) (by simpa using hl)
   | settled u xs =>
     rw [hm] at hl
     exact key u xs (by simp [view, castTy, hm]) (by simpa using hl)
   | lenb n' =>
     rw [hm] at hl; have hb := h.blk id; rw [hm] at hb; obtain ⟨a, c, e1, e2, e3, e4⟩ := hb; simp only [Option.some.injEq] at hl; subst hl; unfold repC at hc
     exact ⟨a, c, by rw [hc.2]; exact e1, by omega⟩
   | rowg e u p fid xs hole =>
     rw [hm] at hl; have hb := h.blk id; rw [hm] at hb; obtain ⟨f, vs, flat, _, _, _, k1, k2⟩ := hb; simp only [Option.some.injEq] at hl; subst hl; unfold repC at hc
     rcases k1.2 with ⟨e4, a, e1⟩ | ⟨g, cap, cur, hz, e3, _, e5, e6, _⟩
     · exact ⟨a, 0, by rw [hc.2, e4]; exact e1, by omega⟩
     · exact ⟨_, cap, by rw [hc.2]; exact e3, by omega⟩
   | _ => rw [hm] at hl; cases hl
 | nst fid i =>
   simp only [lenOf] at hl
   cases hm : m fid with
   | fam e u xss =>
     rw [hm] at hl; simp only [Option.some.injEq] at hl; subst hl; unfold repC at hc; obtain ⟨_, f, vs, e1, e2⟩ := hc; simp only [rx] at e1; obtain ⟨a, c, e3, e4, e5, e6, _⟩ := aB6 h hm e1 e2
     exact ⟨a, c, e3, by omega⟩
   | _ => rw [hm] at hl; cases hl
 | win id sz lo len =>
   simp only [lenOf] at hl
   cases hm : m id with
   | row e u xs =>
     rw [hm] at hl; simp only at hl; split at hl
     · rename_i hc'; simp at hl; subst hl; exact key u ((xs.take (lo + len)).drop lo) (by simp [view, castTy, hm, hc']) (by simp; omega)
     · cases hl
   | settled u xs =>
     rw [hm] at hl; simp only at hl; split at hl
     · rename_i hc'; simp at hl; subst hl; exact key u ((xs.take (lo + len)).drop lo) (by simp [view, castTy, hm, hc']) (by simp; omega)
     · cases hl
   | _ => rw [hm] at hl; cases hl
 | _ => simp [lenOf] at hl
theorem eC1 (h : RepM cx σ N m w) {c : C1} {n : Nat} {v : Value} (hl : lenOf m c = some n) (hc : repC (rx cx σ N m w) c v) :
 ∃ a cap, v = .slice a n cap ∧ (a = none → n = 0) := by
 have key : ∀ (u : Ty) (xs : List u.den), view m u c = some xs → xs.length = n → ∃ a cap, v = .slice a n cap ∧ (a = none → n = 0) := by
  intro u xs hv hn; obtain ⟨a, k, cap, flat, e1, e2, e3, e4, _, e6⟩ := rA4 h hv hc; refine ⟨a, cap, by rw [e1, e2, hn], fun ha => ?_⟩
  rcases e6 with ⟨h1, _⟩ | ⟨b, o, h1, _⟩
  · omega
  · rw [ha] at h1; cases h1
 cases c with
 | cs id k =>
   simp [lenOf] at hl; subst hl; unfold repC at hc; obtain ⟨_, h32, _, b, _, e⟩ := hc
   exact ⟨_, _, e, fun k => by cases k⟩
 | nilsl =>
   simp [lenOf] at hl; subst hl
   exact key .unit [] rfl rfl
 | sl u xs cp =>
   simp [lenOf] at hl
   exact key u xs (by simp [view, castTy]) hl
 | row id =>
   simp only [lenOf] at hl
   cases hm : m id with
   | row e u xs =>
     rw [hm] at hl
     exact key u xs (by simp [view, castTy, hm]) (by simpa using hl)
   | settled u xs =>
     rw [hm] at hl
     exact key u xs (by simp [view, castTy, hm]) (by simpa using hl)
   | lenb n' =>
     rw [hm] at hl; have hb := h.blk id; rw [hm] at hb; obtain ⟨a, c, e1, e2, e3, e4⟩ := hb; simp only [Option.some.injEq] at hl; subst hl; unfold repC at hc
     exact ⟨a, c, by rw [hc.2]; exact e1, e4⟩
   | rowg e u p fid xs hole =>
     rw [hm] at hl; have hb := h.blk id; rw [hm] at hb; obtain ⟨f, vs, flat, _, _, _, k1, k2⟩ := hb; simp only [Option.some.injEq] at hl; subst hl; unfold repC at hc
     rcases k1.2 with ⟨e4, a, e1⟩ | ⟨g, cap, cur, hz, e3, _, e5, e6, _⟩
     · exact ⟨a, 0, by rw [hc.2, e4]; exact e1, fun _ => e4⟩
     · exact ⟨_, cap, by rw [hc.2]; exact e3, fun k => by cases k⟩
   | _ => rw [hm] at hl; cases hl
 | nst fid i =>
   simp only [lenOf] at hl
   cases hm : m fid with
   | fam e u xss =>
     rw [hm] at hl; simp only [Option.some.injEq] at hl; subst hl; unfold repC at hc; obtain ⟨_, f, vs, e1, e2⟩ := hc; simp only [rx] at e1; obtain ⟨a, c, e3, e4, e5, e6, _⟩ := aB6 h hm e1 e2
     exact ⟨a, c, e3, e6⟩
   | _ => rw [hm] at hl; cases hl
 | win id sz lo len =>
   simp only [lenOf] at hl
   cases hm : m id with
   | row e u xs =>
     rw [hm] at hl; simp only at hl; split at hl
     · rename_i hc'; simp at hl; subst hl; exact key u ((xs.take (lo + len)).drop lo) (by simp [view, castTy, hm, hc']) (by simp; omega)
     · cases hl
   | settled u xs =>
     rw [hm] at hl; simp only at hl; split at hl
     · rename_i hc'; simp at hl; subst hl; exact key u ((xs.take (lo + len)).drop lo) (by simp [view, castTy, hm, hc']) (by simp; omega)
     · cases hl
   | _ => rw [hm] at hl; cases hl
 | _ => simp [lenOf] at hl
theorem qA1 {b : Builtin} {args : Array Operand} {ts : Array TypeId} (ho : o.op = .call { callee := .builtin b, args := args, argTypes := ts }) :
 (execOp ρ o).run P w = (builtin b ts o.type (args.map fun | .const _ => true | _ => false) (args.map ρ)).run P w := by
 simp only [execOp, ho, resolve, invoke, Sem.run_bind, Sem.run_pure, Result.andThen_ok]; rfl
theorem jC8 {n : Nat} (h : n ≤ maxLen) : InR .i64 (n : Int) := by
 unfold InR IntKind.min IntKind.max; simp [IntKind.signed, IntKind.bits, maxLen] at *; omega
theorem aD5 (h : RepM cx σ N m w) {x : Operand} {ts : Array TypeId} (ho : o.op = .call { callee := .builtin .len, args := #[x], argTypes := ts }) (ht : TabOK P T) (hx : repA (rx cx σ N m w) (av x) (ρ x))
 (hp : (builtinE T .len ts [av x] m fr).pre) : Runs P w (Res cx σ N m w fr (builtinE T .len ts [av x] m fr)) ((execOp ρ o).run P w) := by
 simp only [builtinE] at hp ⊢; split at hp <;> rename_i heq
 · rename_i c; simp at heq; rw [heq] at hx; split at hp
   · rename_i t hts; have hts' : ts = #[t] := by rw [← Array.toArray_toList (xs := ts), hts]
     subst hts'; unfold repA at hx; split at hp
     · rename_i s hd; have hu := (TI.of_ok ht t (fun e => by rw [e] at hd; cases hd)).str hd; unfold repC at hx; obtain ⟨e1, e2⟩ := hx; refine bA0 (v := .int .i64 s.size) (w' := w) ?_ (Res.pure h rfl (nB2 (jC8 e2)) e2); rw [qA1 ho]; simp [builtin, e1, Builtin.len_, run_underlying hu, goInt]
     · rename_i c2 e hd; split at hp
       · rename_i n hl; have hu := (TI.of_ok ht t (fun e => by rw [e] at hd; cases hd)).slice e hd; obtain ⟨a, cap, e1, e2⟩ := dB9 h hl hx; refine bA0 (v := .int .i64 n) (w' := w) ?_ (Res.pure h rfl (nB2 (jC8 e2)) e2); rw [qA1 ho]; simp [builtin, e1, Builtin.len_, run_underlying hu, goInt]
       · exact hp.elim
     · exact hp.elim
   · exact hp.elim
 · exact hp.elim
theorem uB6 (h : RepM cx σ N m w) {x y : Operand} {ts : Array TypeId} {b : Builtin} (hb : b = .min ∨ b = .max) (ho : o.op = .call { callee := .builtin b, args := #[x, y], argTypes := ts }) (hx : repA (rx cx σ N m w) (av x) (ρ x)) (hy : repA (rx cx σ N m w) (av y) (ρ y))
 (hp : (builtinE T b ts [av x, av y] m fr).pre) : Runs P w (Res cx σ N m w fr (builtinE T b ts [av x, av y] m fr)) ((execOp ρ o).run P w) := by
 rcases hb with rfl | rfl
 · simp only [builtinE] at hp ⊢; split at hp <;> rename_i heq
   · rename_i k a k' b; simp at heq; rw [heq.1] at hx; rw [heq.2] at hy; obtain ⟨e1, r1⟩ := lA1 hx; obtain ⟨e2, r2⟩ := lA1 hy; split at hp
     · rename_i hk; subst hk; simp only [if_true]; refine bA0 (v := .int k (if b < a then b else a)) (w' := w) ?_ (hA5 h fr k _ True (by split <;> assumption)); rw [qA1 ho]; simp [builtin, e1, e2, run_min_int2]
     · exact hp.elim
   · exact hp.elim
 · simp only [builtinE] at hp ⊢; split at hp <;> rename_i heq
   · rename_i k a k' b; simp at heq; rw [heq.1] at hx; rw [heq.2] at hy; obtain ⟨e1, r1⟩ := lA1 hx; obtain ⟨e2, r2⟩ := lA1 hy; split at hp
     · rename_i hk; subst hk; simp only [if_true]; refine bA0 (v := .int k (if b > a then b else a)) (w' := w) ?_ (hA5 h fr k _ True (by split <;> assumption)); rw [qA1 ho]; simp [builtin, e1, e2, run_max_int2]
     · exact hp.elim
   · exact hp.elim
/-! ### slices of slices -/
theorem gC7 (h : RepM cx σ N m w) {t e : TypeId} {u : Ty} {x : C1} {v : Value} (hx : repC (rx cx σ N m w) x v) (ht : TabOK P T) (hd : (TI.of T t).desc = .slice e) (hty : (TI.of T e).ty = some u)
 {lo hi mx : Option Int} {vl vh vm : Option Value} (hl : vl = lo.map (.int .i64)) (hh : vh = hi.map (.int .i64)) (hm : vm = mx.map (.int .i64)) (hmx : mx.isSome = true → hi.isSome = true)
 (hp : (sliceE m u x lo hi mx).pre) : ∃ r, (Instr.sliceAt t v vl vh vm).run P w = .ok r w ∧ Res cx σ N m w fr (sliceE m u x lo hi mx) r w := by
 unfold sliceE at hp ⊢; split at hp
 · rename_i xs hv; have hu := (TI.of_ok ht t (fun e => by rw [e] at hd; cases hd)).slice e hd; have hte := TI.of_ok ht e (fun k => by rw [k] at hty; cases hty); obtain ⟨ii, hii, hs, _⟩ := hte.info; have hun := (hte.ty u hty).1; have hsn : ii.size = u.n := by rw [hs, hun]
   obtain ⟨a, len, cap, flat, rfl, rfl, hlc, hcm, _, _⟩ := rA4 h hv hx; obtain ⟨q1, q2⟩ := h.settles (rowsN m (rowsOf [x])); have hro : ro w (Owned cx σ (updM m ((rowsN m (rowsOf [x])).map (settle m)))) (.sl u) xs [.slice a xs.length cap] := by
    refine mC4 q1 (by rw [wA7]; exact hv) (rA7 q2 _ _ hx) (fun id hid => ?_); exact sA6 (m := m) (t := .sl u) (cs := [x]) (y := xs) hv id hid
   have hfin : ∀ (l h' mm : Nat) (cp : Bool) (p : Prop), l ≤ h' → h' ≤ xs.length → h' ≤ mm → mm ≤ cap → (cp = true → mm = h') →
    Res cx σ N m w fr ⟨p, .one (.sl u ((xs.take h').drop l) cp), (rowsN m (rowsOf [x])).map (settle m), True⟩ (sliced a l h' mm ii.size) w := by
    intro l h' mm cp p h1 h2 h3 h4 h5; refine Res.settled h (ids := rowsN m (rowsOf [x])) rfl (fun _ _ => ?_) trivial; unfold repA repC; refine ⟨uD3 hro h1 h2 mm h3 h4 ii.size hsn, fun hc => ?_⟩; rw [h5 hc]; exact ⟨_, _, rfl⟩
   have hz : (sizeOf (P.elem t)).run P w = .ok ii.size w := by rw [oA4 hu]; exact tA0 hii
   have hPe : P.underlying t = some (.slice (P.elem t)) := by rw [oA4 hu]; exact hu
   have hat : ∀ lo hi mx, (Instr.sliceAt t (.slice a xs.length cap) lo hi mx).run P w = (Instr.slice t (.slice a xs.length cap) lo hi mx).run P w := fun lo hi mx => run_sliceAt_slice w t _ lo hi mx hPe; rw [hat]; subst hl; subst hh; subst hm
   cases mx with
   | none =>
     simp only [Option.map_none]; obtain ⟨p1, p2, p3⟩ := hp
     cases lo with
     | none =>
       cases hi with
       | none =>
         refine ⟨_, by simp only [Option.map_none]; rw [run_slice_all w t a _ _ hPe, hz, Result.andThen_ok], ?_⟩; have := hfin 0 xs.length cap false (0 ≤ (0 : Int) ∧ (0 : Int) ≤ xs.length ∧ (xs.length : Int) ≤ xs.length) (Nat.zero_le _) (Nat.le_refl _) hlc (Nat.le_refl _) (by simp)
         simpa using this
       | some q =>
         simp only [Option.getD_none, Option.getD_some] at p1 p2 p3; refine ⟨_, by simp only [Option.map_none, Option.map_some]; rw [run_slice_h w t a _ _ hPe .i64 q (by omega) (by omega), hz, Result.andThen_ok], ?_⟩; have := hfin 0 q.toNat cap false (0 ≤ (0 : Int) ∧ (0 : Int) ≤ q ∧ q ≤ xs.length) (Nat.zero_le _) (by omega) (by omega) (Nat.le_refl _) (by simp)
         simpa using this
     | some l =>
       cases hi with
       | none =>
         simp only [Option.getD_none, Option.getD_some] at p1 p2 p3; refine ⟨_, by simp only [Option.map_none, Option.map_some]; rw [run_slice_l w t a _ _ hPe .i64 l (by omega) (by omega), hz, Result.andThen_ok], ?_⟩; have := hfin l.toNat xs.length cap false (0 ≤ l ∧ l ≤ (xs.length : Int) ∧ (xs.length : Int) ≤ xs.length) (by omega) (Nat.le_refl _) hlc (Nat.le_refl _) (by simp)
         simpa using this
       | some q =>
         simp only [Option.getD_some] at p1 p2 p3; refine ⟨_, by simp only [Option.map_none, Option.map_some]; rw [run_slice_lh w t a _ _ hPe .i64 .i64 l q (by omega) (by omega) (by omega), hz, Result.andThen_ok], ?_⟩
         exact hfin l.toNat q.toNat cap false _ (by omega) (by omega) (by omega) (Nat.le_refl _) (by simp)
   | some c =>
     obtain ⟨p1, p2, p3, p4⟩ := hp
     cases hi with
     | none => simp at hmx
     | some q =>
       cases lo with
       | none =>
         simp only [Option.getD_none, Option.getD_some] at p1 p2 p3 p4; subst p4; refine ⟨_, by simp only [Option.map_none, Option.map_some]; rw [run_slice_hm w t a _ _ hPe .i64 .i64 c c (by omega) (by omega) (by omega), hz, Result.andThen_ok], ?_⟩; have := hfin 0 c.toNat c.toNat true (0 ≤ (0 : Int) ∧ (0 : Int) ≤ c ∧ c ≤ xs.length ∧ c = c) (Nat.zero_le _) (by omega) (Nat.le_refl _) (by omega) (fun _ => rfl)
         simpa using this
       | some l =>
         simp only [Option.getD_some] at p1 p2 p3 p4; subst p4; refine ⟨_, by simp only [Option.map_some]; rw [run_slice_lhm w t a _ _ hPe .i64 .i64 .i64 l c c (by omega) (by omega) (by omega) (by omega), hz, Result.andThen_ok], ?_⟩; exact hfin l.toNat c.toNat c.toNat true _ (by omega) (by omega) (Nat.le_refl _) (by omega) (fun _ => rfl)
 · exact hp.elim
theorem pB6 (h : RepM cx σ N m w) {id : Nat} {e : TypeId} {u : Ty} {xs : List u.den} (hn : ¬ N id) (_hm : m id = .row e u xs) {a a' : Option Addr} {lo len cap : Nat} (hs : σ id = .slice a xs.length cap) (_hl : lo + len ≤ xs.length) (hlc : xs.length ≤ cap)
 (ha : lo < cap → ∃ b, a = some ⟨b, 0, none⟩ ∧ a' = some ⟨b, lo * u.n, none⟩) {l hi s : Nat} (h1 : l ≤ hi) (h2 : lo + hi ≤ xs.length) (hsz : s = u.n) (p : Prop) :
 Res cx σ N m w fr ⟨p, .one (.win id u.n (lo + l) (hi - l)), [], True⟩ (sliced a' l hi (cap - lo) s) w := by
 subst hsz; refine Res.pure h rfl ?_ trivial; unfold repA repC; unfold sliced; refine ⟨hn, a, xs.length, cap, if cap - lo = l then a' else a'.map (·.add (l * u.n)), hs, by omega, hlc, ?_, fun hc => ?_⟩
 · rw [show cap - (lo + l) = cap - lo - l by omega]
 · obtain ⟨b, rfl, rfl⟩ := ha (by omega); refine ⟨b, rfl, ?_⟩; rw [if_neg (by omega)]; simp [oA0, Nat.add_mul]
theorem rB4 {x : Rx} {kt vt : Ty} {ka va : Bool} : ∀ (l : List (kt.den × vt.den)) (es : List MapEntry), es.length = l.length →
 (∀ (i : Nat) p en, l[i]? = some p → es[i]? = some en → ∃ ks vs, en.key = mkV ka ks ∧ ro x.w x.O kt p.1 ks ∧ en.val = mkV va vs ∧ ro x.w x.O vt p.2 vs) → mapRep x kt vt ka va l es
 | [], es, hl, _ => List.eq_nil_of_length_eq_zero hl
 | p :: l, [], hl, _ => by simp at hl
 | p :: l, e :: es, hl, h => by
   obtain ⟨ks, vs, h1, h2, h3, h4⟩ := h 0 p e rfl rfl; exact ⟨e, es, ks, vs, rfl, h1, h2, h3, h4, rB4 l es (by simpa using hl) (fun i q en hq he => h (i + 1) q en (by simpa using hq) (by simpa using he))⟩
theorem nB3 {w : World} {O : Nat → Prop} {e : TypeId} {u : Ty} {v : Value} {xs : List u.den} {flat : List Value} (h : RowR w e u.n v xs.length flat) (hr : roAll (ro w O u) xs flat) (hO : ∀ g, blkOf v = some g → ¬ O g) : ro w O (.sl u) xs [v] := by
 rcases h.2 with ⟨h0, a, rfl⟩ | ⟨g, cap, cur, hc, e1, hg, h1, h2, h3, h4⟩
 · exact ⟨a, 0, 0, rfl, h0.symm, Nat.le_refl _, by simp [maxLen], .inl rfl⟩
 · refine ⟨some ⟨g, 0, none⟩, xs.length, cap, by rw [e1], rfl, h1, h2, .inr ⟨g, 0, flat, rfl, hr, fun j q hq => ?_⟩⟩; have hb : blkOf v = some g := by rw [e1]; exact gA0 hc
   refine ⟨hO g hb, ?_⟩; rw [Nat.zero_add]; exact hA1 h hb j q hq
theorem tC8 (h : RepM cx σ N m w) {id : Nat} {v : Value} (hx : ¬ N id ∧ v = σ id) (hp : (sealE m id).pre) : Res cx σ N m w fr (sealE m id) v w := by
 obtain ⟨hn, e1⟩ := hx; subst e1; unfold sealE at hp ⊢; split at hp
 · rename_i kt ka fid ks hm; split at hp
   · rename_i e u xss hf; have hne : id ≠ fid := fun k => by rw [k, hf] at hm; cases hm
     have hb := h.blk id; rw [hm] at hb; obtain ⟨r, es, f, vs, b1, b2, b3, b4, b5⟩ := hb; simp only [rx] at b1 b2 b3 b4; have hb2 := h.blk fid; rw [hf] at hb2; obtain ⟨f', vs', c1, c2⟩ := hb2; simp only [rx] at c1; rw [b4] at c1; cases c1; have v1 : upd (upd m fid Blk.dead) id (.mapb kt (.sl u) ka false (ks.zip xss)) id = .mapb kt (.sl u) ka false (ks.zip xss) := upd_same _ _ _; have v2 : upd (upd m fid Blk.dead) id (.mapb kt (.sl u) ka false (ks.zip xss)) fid = .dead := by rw [iA0 _ _ (fun k => hne k.symm), upd_same]
     have v3 : ∀ i, i ≠ id → i ≠ fid → upd (upd m fid Blk.dead) id (.mapb kt (.sl u) ka false (ks.zip xss)) i = m i := fun i h1 h2 => by rw [iA0 _ _ h1, iA0 _ _ h2]
     obtain ⟨k1, k2⟩ := h.step (σ' := σ) (N' := Nx N fr) (m' := upd (upd m fid .dead) id (.mapb kt (.sl u) ka false (ks.zip xss))) (w' := w) (fun i => i = id ∨ i = fid) (fun i k => k.1)
      (fun i k => by
        by_cases h1 : i = id
        · exact absurd (h1 ▸ k.1) hn
        · by_cases h2 : i = fid
          · rw [h2, v2]
          · rw [v3 i h1 h2]; exact h.fresh i k.1)
      (fun i k => by simp only [not_or] at k; exact ⟨v3 i k.1 k.2, rfl⟩) (fun _ _ => rfl)
      (fun _ _ _ => rfl) ⟨Nat.le_refl _, Nat.le_refl _⟩ rfl rfl rfl
      (fun i b hi ho hb => by
        rcases hi with rfl | rfl
        · exact .inr ⟨i, .inl rfl, by rw [hm]; rfl, hb⟩
        · rw [v2] at ho; cases ho)
      (fun i i' b hi hi' ho ho' _ _ => by
        rcases hi with rfl | rfl <;> rcases hi' with rfl | rfl <;> first | rfl | (rw [v2] at ho; cases ho) | (rw [v2] at ho'; cases ho'))
      (fun i _ => h.hone i)
      (fun hk i hi => by
        rcases hi with rfl | rfl
        · rw [v1]; refine ⟨r, es, ks.length, b1, b2, rB4 _ _ (by rw [List.length_zip, b5.len, ← c2.len, b5.lenv, Nat.min_self]) ?_, fun q => by (unfold stq at q; cases q), fun q => by (unfold cnq at q; cases q)⟩; intro j p en hp he; obtain ⟨p1, p2⟩ := List.getElem?_zip_eq_some.1 hp; have hj : j < vs.toList.length := by
           rw [b5.lenv]; exact (List.getElem?_eq_some_iff.1 p1).1
          obtain ⟨_, d2, kvs, d3, d4⟩ := b5.at_ j p.1 en vs.toList[j] p1 he (List.getElem?_eq_getElem hj); obtain ⟨_, flat, d5, d6⟩ := c2.row j p.2 vs.toList[j] p2 (List.getElem?_eq_getElem hj); refine ⟨kvs, [vs.toList[j]], d3, hA0 hk.k _ _ _ d4, d2 (by simp), ?_⟩; refine nB3 d5 (fA0 (hA0 hk.k u) _ _ d6) fun g hg hO => ?_; have hfo : own (m fid) = true := by rw [hf]; rfl
          have hfh : hb (σ fid) g := by rw [b4]; exact hb_fam.2 ⟨_, List.getElem_mem hj, hg⟩
          rcases hO with hO | ⟨i', ho', hb'⟩
          · exact h.notF fid g hfo hfh hO
          · by_cases h1 : i' = i
            · rw [h1] at hb'; exact hne (h.inj i fid g (by rw [hm]; rfl) hfo hb' hfh)
            · by_cases h2 : i' = fid
              · rw [h2, v2] at ho'; cases ho'
              · rw [v3 i' h1 h2] at ho'; exact h2 (h.inj i' fid g ho' hfo hb' hfh)
        · rw [v2]; trivial)
     refine ⟨_, k1, k2, ?_, trivial⟩; unfold repA repC; exact ⟨fun k => hn k.1, rfl⟩
   · exact hp.elim
 · exact hp.elim
theorem gD5 (h : RepM cx σ N m w) (hfr0 : N fr) {x : AV} {v : Value} (hx : repA (rx cx σ N m w) x v) (hp : (mvE m fr x).pre) : Res cx σ N m w fr (mvE m fr x) v w := by
 unfold mvE at hp ⊢; split at hp
 · rename_i id; obtain ⟨hn, e1⟩ : ¬ N id ∧ v = σ id := by unfold repA repC at hx; exact hx
   subst e1; split at hp
   · rename_i e' u' xs hm; have hne : id ≠ fr := fun k => hn (k ▸ hfr0); have v1 : upd (upd m id Blk.dead) fr (.row e' u' xs) id = .dead := by rw [iA0 _ _ hne, upd_same]
     have v2 : upd (upd m id Blk.dead) fr (.row e' u' xs) fr = .row e' u' xs := upd_same _ _ _; have v3 : ∀ i, i ≠ id → i ≠ fr → upd (upd m id Blk.dead) fr (.row e' u' xs) i = m i := fun i h1 h2 => by rw [iA0 _ _ h2, iA0 _ _ h1]
     obtain ⟨k1, k2⟩ := h.step (σ' := upd σ fr (σ id)) (N' := Nx N fr) (m' := upd (upd m id .dead) fr (.row e' u' xs)) (w' := w) (fun i => i = id ∨ i = fr) (fun i k => k.1)
      (fun i k => by
        have h2 : i ≠ fr := fun e => k.2 (by omega); by_cases h1 : i = id
        · rw [h1, v1]
        · rw [v3 i h1 h2]; exact h.fresh i k.1)
      (fun i k => by simp only [not_or] at k; exact ⟨v3 i k.1 k.2, iA0 _ _ k.2⟩) (fun i k => iA0 _ _ (fun e => k (e ▸ hfr0)))
      (fun _ _ _ => rfl) ⟨Nat.le_refl _, Nat.le_refl _⟩ rfl rfl rfl
      (fun i b hi ho hb => by
        rcases hi with rfl | rfl
        · rw [v1] at ho; cases ho
        · rw [upd_same] at hb; exact .inr ⟨id, .inl rfl, by rw [hm]; rfl, hb⟩)
      (fun i i' b hi hi' ho ho' _ _ => by
        rcases hi with rfl | rfl <;> rcases hi' with rfl | rfl <;> first | rfl | (rw [v1] at ho; cases ho) | (rw [v1] at ho'; cases ho'))
      (fun i hi => by
        rcases hi with rfl | rfl
        · rw [iA0 _ _ hne]; exact h.hone i
        · rw [upd_same]; exact h.hone id)
      (fun hk i hi => by
        rcases hi with rfl | rfl
        · rw [v1]; trivial
        · rw [v2]; have hb2 := h.blk id; rw [hm] at hb2; obtain ⟨n', fl, rfl, r1, r2⟩ := hb2; simp only [rx] at r1 r2; refine ⟨_, fl, rfl, ?_, fA0 (hA0 hk.k u') _ _ r2⟩; simp only [rx]; rw [upd_same]; exact r1)
     refine ⟨_, k1, k2, ?_, trivial⟩; unfold repA repC; exact ⟨fun k => k.2 (by omega), by simp only [rx]; rw [upd_same]⟩
   · rename_i e t p fid xs hm; unfold sealG at hp ⊢; split at hp
     · rename_i e2 u xss hf; split at hp
       · rename_i ht; rw [if_pos ht]; exact tC4 h hfr0 hn hm hf ht trivial
       · exact hp.elim
     · exact hp.elim
   · exact hp.elim
 · rename_i id; exact tC8 h (by unfold repA repC at hx; exact hx) hp
 · exact hp.elim
theorem oD2 (h : RepM cx σ N m w) (hfr0 : N fr) {t e : TypeId} {u : Ty} {x : C1} {v : Value} (hx : repC (rx cx σ N m w) x v) (ht : TabOK P T) (hd : (TI.of T t).desc = .slice e) (hty : (TI.of T e).ty = some u)
 {lo hi : Option Int} {vl vh : Option Value} (hl : vl = lo.map (.int .i64)) (hh : vh = hi.map (.int .i64)) {k : Nat}
 (hp : (winE m u fr x lo hi k).pre) : ∃ r, (Instr.sliceAt t v vl vh none).run P w = .ok r w ∧ Res cx σ N m w fr (winE m u fr x lo hi k) r w := by
 have hu := (TI.of_ok ht t (fun e => by rw [e] at hd; cases hd)).slice e hd; have hte := TI.of_ok ht e (fun k => by rw [k] at hty; cases hty); obtain ⟨ii, hii, hs, _⟩ := hte.info; have hun := (hte.ty u hty).1; have hsn : ii.size = u.n := by rw [hs, hun]
 have hz : (sizeOf (P.elem t)).run P w = .ok ii.size w := by rw [oA4 hu]; exact tA0 hii
 have hPe : P.underlying t = some (.slice (P.elem t)) := by rw [oA4 hu]; exact hu
 have run : ∀ (a : Option Addr) (len cap : Nat), v = .slice a len cap → len ≤ cap → 0 ≤ lo.getD 0 → lo.getD 0 ≤ hi.getD len → hi.getD len ≤ cap →
  (Instr.sliceAt t v vl vh none).run P w = .ok (sliced a (lo.getD 0).toNat (hi.getD len).toNat cap ii.size) w := by
  intro a len cap e1 hlc p1 p2 p3; subst e1; subst hl; subst hh; rw [run_sliceAt_slice w t _ _ _ _ hPe]
  cases lo with
  | none =>
    cases hi with
    | none => simp only [Option.map_none]; rw [run_slice_all w t a _ _ hPe, hz, Result.andThen_ok]; simp
    | some q =>
      simp only [Option.getD_none, Option.getD_some] at p1 p2 p3
      simp only [Option.map_none, Option.map_some]; rw [run_slice_h w t a _ _ hPe .i64 q (by omega) (by omega), hz, Result.andThen_ok]; simp
  | some l =>
    cases hi with
    | none =>
      simp only [Option.getD_none, Option.getD_some] at p1 p2 p3
      simp only [Option.map_none, Option.map_some]; rw [run_slice_l w t a _ _ hPe .i64 l (by omega) (by omega), hz, Result.andThen_ok]; simp
    | some q =>
      simp only [Option.getD_some] at p1 p2 p3; simp only [Option.map_none, Option.map_some]; rw [run_slice_lh w t a _ _ hPe .i64 .i64 l q (by omega) (by omega) (by omega), hz, Result.andThen_ok]; simp
 unfold winE at hp ⊢; split at hp
 · rename_i id; unfold repC at hx; obtain ⟨hn, e1⟩ := hx; simp only [rx] at e1 hn; split at hp
   · rename_i e' u' xs hm; split at hp
     · rename_i he; subst he; simp only [if_true]; have hb := h.blk id; rw [hm] at hb; obtain ⟨a, cap, flat, g1, g2, g3, g4, g5⟩ := yA1 hb; have ha : 0 < cap → ∃ b, a = some ⟨b, 0, none⟩ ∧ a = some ⟨b, 0 * u'.n, none⟩ := fun hc => by
        rcases g5 with ⟨rfl, _⟩ | ⟨b, rfl, _⟩
        · omega
        · exact ⟨b, rfl, by rw [Nat.zero_mul]⟩
       split at hp
       · rename_i hk; subst hk; simp only [if_true]; obtain ⟨p1, p2, p3⟩ := hp; refine ⟨_, run a xs.length cap (e1.trans g1) g2 p1 p2 (by omega), ?_⟩; have := pB6 (fr := fr) h hn hm g1 (lo := 0) (len := xs.length) (by omega) g2 ha (l := (lo.getD 0).toNat) (hi := (hi.getD xs.length).toNat) (s := ii.size) (by omega) (by omega) hsn (0 ≤ lo.getD 0 ∧ lo.getD 0 ≤ hi.getD xs.length ∧ hi.getD xs.length ≤ xs.length); rw [Nat.zero_add, Nat.sub_zero, show (hi.getD xs.length).toNat - (lo.getD 0).toNat = (hi.getD xs.length - lo.getD 0).toNat by omega] at this; exact this
       · rename_i hk; simp only [if_neg hk]; split at hp
         · rename_i hk2; rw [if_pos hk2]; obtain ⟨rfl, hlo⟩ := hk2; have hlo' : lo = none := by cases lo <;> simp_all
           subst hlo'; obtain ⟨p1, p2⟩ := hp; refine ⟨_, run a xs.length cap (e1.trans g1) g2 (Int.le_refl _) p1 (by omega), ?_⟩; simp only [Option.getD_none, Int.toNat_zero]; generalize hi.getD (xs.length : Int) = q at *; have hne : id ≠ fr := fun k => hn (k ▸ hfr0); have v1 : upd (upd m id Blk.dead) fr (.row e' u' (xs.take q.toNat)) id = .dead := by rw [iA0 _ _ hne, upd_same]
           have v2 : upd (upd m id Blk.dead) fr (.row e' u' (xs.take q.toNat)) fr = .row e' u' (xs.take q.toNat) := upd_same _ _ _; have v3 : ∀ i, i ≠ id → i ≠ fr → upd (upd m id Blk.dead) fr (.row e' u' (xs.take q.toNat)) i = m i := fun i h1 h2 => by rw [iA0 _ _ h2, iA0 _ _ h1]
           have hval : sliced a 0 q.toNat cap ii.size = .slice a q.toNat cap := by
            unfold sliced; by_cases hc : cap = 0
            · simp [hc]
            · rw [if_neg hc]; obtain ⟨b, rfl, _⟩ := ha (by omega); simp [oA0]
           have hbk : blkOf (.slice a q.toNat cap) = blkOf (σ id) := by
            rw [g1]; by_cases hc : cap = 0
            · rw [hc, cA1, cA1]
            · obtain ⟨b, rfl, _⟩ := ha (by omega); rw [gA0 (by omega), gA0 (by omega)]
           obtain ⟨k1, k2⟩ := h.step (σ' := upd σ fr (.slice a q.toNat cap)) (N' := Nx N fr) (m' := upd (upd m id .dead) fr (.row e' u' (xs.take q.toNat))) (w' := w) (fun i => i = id ∨ i = fr) (fun i k => k.1)
            (fun i k => by
              have h2 : i ≠ fr := fun e => k.2 (by omega); by_cases h1 : i = id
              · rw [h1, v1]
              · rw [v3 i h1 h2]; exact h.fresh i k.1)
            (fun i k => by simp only [not_or] at k; exact ⟨v3 i k.1 k.2, iA0 _ _ k.2⟩) (fun i k => iA0 _ _ (fun e => k (e ▸ hfr0)))
            (fun _ _ _ => rfl) ⟨Nat.le_refl _, Nat.le_refl _⟩ rfl rfl rfl
            (fun i b hi ho hb => by
              rcases hi with rfl | rfl
              · rw [v1] at ho; cases ho
              · rw [upd_same, hb_slice, hbk] at hb; exact .inr ⟨id, .inl rfl, by rw [hm]; rfl, .inl hb⟩)
            (fun i i' b hi hi' ho ho' _ _ => by
              rcases hi with rfl | rfl <;> rcases hi' with rfl | rfl <;> first | rfl | (rw [v1] at ho; cases ho) | (rw [v1] at ho'; cases ho'))
            (fun i hi => by
              rcases hi with rfl | rfl
              · rw [iA0 _ _ hne]; exact h.hone i
              · rw [upd_same]; rfl)
            (fun hk i hi => by
              rcases hi with rfl | rfl
              · rw [v1]; trivial
              · rw [v2]; have hb2 := h.blk id; rw [hm] at hb2; obtain ⟨n', fl, rfl, r1, r2⟩ := hb2; simp only [rx] at r1 r2; obtain ⟨pre, vs, post, f1, f2, f3, f4, _⟩ := kA5 (fun x c => qA0 u' x c) r2 (Nat.zero_le q.toNat) (by omega); rw [List.drop_zero] at f4; have hp0 : pre = [] := List.eq_nil_of_length_eq_zero (by rw [f2, Nat.zero_mul]); subst hp0; have hlen : (xs.take q.toNat).length = q.toNat := by simp; omega
                refine ⟨q.toNat, vs, hlen.symm, ?_, fA0 (hA0 hk.k u') _ _ f4⟩; simp only [rx]; rw [upd_same]; have hvl : vs.length = q.toNat * u'.n := by rw [nA0 (fun x c => qA0 u' x c) _ _ f4, hlen]
                rcases r1.2 with ⟨z1, a0, z2⟩ | ⟨g, cp, cur, z1, z2, z3, z4, z5, z6, z7⟩
                · rw [g1] at z2; simp only [Value.slice.injEq] at z2; have hq0 : q.toNat = 0 := by omega
                  have hvs : vs = [] := List.eq_nil_of_length_eq_zero (by rw [hvl, hq0, Nat.zero_mul]); rw [hq0, z2.2.2, hvs]; exact oA2 w e' u'.n a
                · rw [g1] at z2; simp only [Value.slice.injEq] at z2; obtain ⟨rfl, _, rfl⟩ := z2; refine bA4 hvl z3 (by omega) z5 z6 ?_; have : q.toNat * u'.n ≤ xs.length * u'.n := Nat.mul_le_mul_right _ (by omega); rw [← hvl] at this ⊢; rw [← Nat.min_eq_left this, ← List.take_take, z7, f1]; exact List.take_left)
           refine ⟨_, k1, k2, ?_, trivial⟩; rw [hval]; unfold repA repC; exact ⟨fun k => k.2 (by omega), by simp only [rx]; rw [upd_same]⟩
         · exact hp.elim
     · exact hp.elim
   · exact hp.elim
 · rename_i id sz b len; split at hp
   · rename_i e' u' xs hm; split at hp
     · rename_i he; obtain ⟨rfl, rfl, hll⟩ := he; simp only [hll, and_self, if_true]; split at hp
       · rename_i hk; subst hk; simp only [if_true]; obtain ⟨p1, p2, p3⟩ := hp; have hb := h.blk id; rw [hm] at hb; obtain ⟨a, cap, flat, g1, g2, g3, g4, g5⟩ := yA1 hb; obtain ⟨q1, q2, a', q3, q4⟩ := uA4 hx (by simp only [rx]; exact g1); unfold repC at hx; refine ⟨_, run a' len (cap - b) q3 (by omega) p1 p2 (by omega), ?_⟩; have := pB6 (fr := fr) h hx.1 hm g1 (lo := b) (len := len) hll g2 q4 (l := (lo.getD 0).toNat) (hi := (hi.getD len).toNat) (s := ii.size) (by omega) (by omega) hsn (0 ≤ lo.getD 0 ∧ lo.getD 0 ≤ hi.getD len ∧ b + hi.getD len ≤ xs.length); rw [show (hi.getD len).toNat - (lo.getD 0).toNat = (hi.getD len - lo.getD 0).toNat by omega] at this; exact this
       · exact hp.elim
     · exact hp.elim
   · exact hp.elim
 · exact hp.elim
end
end Go.Ev
