/- Part. -/
import Derived.Test.YtabadacjbkhmkaaGreatDoorEvG1ToOps5
set_option linter.all false
namespace Go.Ev
section
variable {cx : Cx} {σ : Nat → Value} {N : Nat → Prop} {m : Mem} {w : World} {P : Program} {T : Tab} {G : Env} {o : Oper} {fr : Nat} {ρ : Operand → Value} {av : Operand → AV}
theorem RepM.kill (h : RepM cx σ N m w) (id : Nat) : RepM cx σ N (upd m id .dead) w ∧ Rx.Keeps (rx cx σ N m w) (rx cx σ N (upd m id .dead) w) := by
 refine h.step (fun i => i = id) (fun _ k => k) (fun i hi => ?_) (fun i hi => ⟨iA0 _ _ hi, rfl⟩) (fun _ _ => rfl) (fun _ _ _ => rfl) ⟨Nat.le_refl _, Nat.le_refl _⟩ rfl rfl rfl
  (fun i b hi ho _ => ?_) (fun i i' b hi hi' _ _ _ _ => hi.trans hi'.symm) (fun i _ => h.hone i) (fun hk i hi => ?_)
 · by_cases e : i = id
   · subst e; rw [upd_same]
   · rw [iA0 _ _ e]; exact h.fresh i hi
 · subst hi; rw [upd_same] at ho; cases ho
 · subst hi; rw [upd_same]; trivial
theorem sA7 (w : World) (ob : Obj) : (∀ b, b < w.heap.size → (w.drew.alloc ob).heap[b]? = w.heap[b]?) ∧ (w.drew.alloc ob).os = w.os ∧ (w.drew.alloc ob).tape = w.tape ∧ (w.drew.alloc ob).output = w.output ∧ w.heap.size ≤ (w.drew.alloc ob).heap.size ∧ w.drawn ≤ (w.drew.alloc ob).drawn :=
 ⟨fun _ hb => heap_alloc_old w.drew ob hb, rfl, rfl, rfl, by simp, Nat.le_succ _⟩
theorem eA9 {σ0 : Nat → Value} {N0 : Nat → Prop} {m0 : Mem} (hk : Rx.Keeps (rx cx σ0 N0 m0 w) (rx cx σ N m w)) (h : RepM cx σ N m w) (hfr : N fr) (hsub : ∀ id, N0 id → ¬ (fr ≤ id ∧ id < fr + 32) → N id)
 {e : TypeId} {t : Ty} {xs : List t.den} {flat : List Value} {cap : Nat} {cur : Array Value} {w' : World} (hw : (∀ b, b < w.heap.size → w'.heap[b]? = w.heap[b]?) ∧ w'.os = w.os ∧ w'.tape = w.tape ∧ w'.output = w.output ∧ w.heap.size ≤ w'.heap.size ∧ w.drawn ≤ w'.drawn)
 (hnew : w'.heap[w.heap.size]? = some (.cells cur e (0, 0))) (hfl : roAll (ro w (Owned cx σ m) t) xs flat) (hlc : xs.length ≤ cap) (hcm : cap ≤ maxLen) (hcs : cur.size = cap * t.n) (htk : cur.toList.take (xs.length * t.n) = flat)
 {p q : Prop} (hq : q) {u0 : Heap} (hm : m = updM m0 u0) :
 Res cx σ0 N0 m0 w fr ⟨p, .one (.row fr), u0 ++ [(fr, .row e t xs)], q⟩ (.slice (some ⟨w.heap.size, 0, none⟩) xs.length cap) w' := by
 have hsz := hw.2.2.2.2.1; obtain ⟨g1, g2⟩ := h.put hfr (.slice (some ⟨w.heap.size, 0, none⟩) xs.length cap) (.row e t xs) w' rfl hw (fun b _ hb => by
  by_cases hc : cap = 0
  · rw [hc, cA1] at hb; cases hb
  · rw [gA0 (by omega)] at hb; simp only [Option.some.injEq] at hb; omega)
  (fun hk => ⟨xs.length, flat, rfl, by
    simp only [rx]; rw [upd_same]; exact bA4 (nA0 (fun x c => qA0 t x c) _ _ hfl) hnew hlc hcm hcs htk, fA0 (hA0 hk.k t) _ _ hfl⟩)
 have hw : ∀ id, Nx N0 fr id → (N id ∧ id ≠ fr) := fun id hid => ⟨hsub id hid.1 hid.2, fun e => hid.2 ⟨by omega, by omega⟩⟩; obtain ⟨g3, g4⟩ := g1.weaken hw; have hmm : updM m0 (u0 ++ [(fr, Blk.row e t xs)]) = upd m fr (.row e t xs) := by
  rw [yA0, ← hm]; rfl
 refine ⟨upd σ fr (.slice (some ⟨w.heap.size, 0, none⟩) xs.length cap), ?_, ?_, ?_, hq⟩ <;> simp only [hmm]
 · exact g3
 · exact ⟨(hk.k.trans g2.k (Nat.le_refl _)).trans g4.k hsz, fun id hid => by
    have hid' : ¬ N id := fun k => hid (hk.N id k); rw [g4.σ id (fun k => hid' k.1), g2.σ id hid']; exact hk.σ id hid, fun id hid => hid.1⟩
 · unfold repA repC; exact ⟨fun k => k.2 ⟨by omega, by omega⟩, by simp only [rx]; rw [upd_same]⟩
theorem aA6 {σ0 : Nat → Value} {N0 : Nat → Prop} {m0 : Mem} (hk : Rx.Keeps (rx cx σ0 N0 m0 w) (rx cx σ N m w)) (h : RepM cx σ N m w) (hfr : N fr) (hsub : ∀ id, N0 id → ¬ (fr ≤ id ∧ id < fr + 32) → N id)
 {e : TypeId} {t : Ty} {p q : Prop} (hq : q) {u0 : Heap} (hm : m = updM m0 u0) {a0 : Option Addr} :
 Res cx σ0 N0 m0 w fr ⟨p, .one (.row fr), u0 ++ [(fr, .row e t [])], q⟩ (.slice a0 0 0) w := by
 obtain ⟨g1, g2⟩ := h.put hfr (.slice a0 0 0) (.row e t []) w rfl (qA3 w) (fun b _ hb => by rw [cA1] at hb; cases hb)
  (fun _ => ⟨0, [], rfl, by simp only [rx]; rw [upd_same]; exact oA2 w e t.n a0, rfl⟩)
 have hw : ∀ id, Nx N0 fr id → (N id ∧ id ≠ fr) := fun id hid => ⟨hsub id hid.1 hid.2, fun e => hid.2 ⟨by omega, by omega⟩⟩; obtain ⟨g3, g4⟩ := g1.weaken hw; have hmm : updM m0 (u0 ++ [(fr, Blk.row e t [])]) = upd m fr (.row e t []) := by
  rw [yA0, ← hm]; rfl
 refine ⟨upd σ fr (.slice a0 0 0), ?_, ?_, ?_, hq⟩ <;> simp only [hmm]
 · exact g3
 · exact ⟨(hk.k.trans g2.k (Nat.le_refl _)).trans g4.k (Nat.le_refl _), fun id hid => by
    have hid' : ¬ N id := fun k => hid (hk.N id k); rw [g4.σ id (fun k => hid' k.1), g2.σ id hid']; exact hk.σ id hid, fun id hid => hid.1⟩
 · unfold repA repC; exact ⟨fun k => k.2 ⟨by omega, by omega⟩, by simp only [rx]; rw [upd_same]⟩
theorem tA4 {σ0 : Nat → Value} {N0 : Nat → Prop} {m0 : Mem} (hk : Rx.Keeps (rx cx σ0 N0 m0 w) (rx cx σ N m w)) (h : RepM cx σ N m w) (hfr : N fr) (hsub : ∀ id, N0 id → ¬ (fr ≤ id ∧ id < fr + 32) → N id)
 {st ty e : TypeId} {i : TypeInfo} {z : Value} {t : Ty} (hst : P.underlying st = some (.slice e)) (hi : P.info? e = some i) (hz : i.zero = some z) (hzs : z.cells.size = i.size) (hsz : i.size = t.n) (hpos : 0 < i.size)
 {xs ys : List t.den} {vb : Value} {flat : List Value} (hfl : roAll (ro w (Owned cx σ m) t) xs flat)
 (hvb : (vb = .slice none 0 0 ∧ xs = []) ∨ ∃ ab cap, vb = .slice (some ab) xs.length cap ∧ xs.length ≤ cap ∧ cap < xs.length + ys.length ∧ ∀ j u, flat[j]? = some u → w.cell? (ab.add j) = some u)
 {ax : Option Addr} {capx : Nat} {flatx : List Value} (hflx : roAll (ro w (Owned cx σ m) t) ys flatx)
 (hax : (capx = 0 ∧ flatx = []) ∨ ∃ b q, ax = some ⟨b, q, none⟩ ∧ ∀ j u, flatx[j]? = some u → w.cell? ⟨b, q + j, none⟩ = some u)
 (hb : (xs.length + ys.length) * i.bytes ≤ 140737488355328) (hm63 : xs.length + ys.length ≤ maxLen) {p q : Prop} (hq : q) {u0 : Heap} (hm : m = updM m0 u0) :
 ∃ r w', (Builtin.append_ #[st, st] ty #[vb, .slice ax ys.length capx]).run P w = .ok r w' ∧ Res cx σ0 N0 m0 w fr ⟨p, .one (.row fr), u0 ++ [(fr, .row e t (xs ++ ys))], q⟩ r w' := by
 have hlx := nA0 (fun x c => qA0 t x c) _ _ hflx; have hl := nA0 (fun x c => qA0 t x c) _ _ hfl; have h63 : ((xs.length + ys.length : Nat) : Int) ≤ 9223372036854775807 := by simp only [maxLen] at hm63; omega
 have fin : ∀ old, old < xs.length + ys.length → Res cx σ0 N0 m0 w fr ⟨p, .one (.row fr), u0 ++ [(fr, .row e t (xs ++ ys))], q⟩ (.slice (some ⟨w.heap.size, 0, none⟩) (xs.length + ys.length) (grownCap w (xs.length + ys.length) old e))
  (w.drew.alloc (.cells (flat.toArray ++ flatx.toArray ++ Builtin.zeroCells z.cells (grownCap w (xs.length + ys.length) old e - (xs.length + ys.length))) e)) := by
  intro old ho; have hge := grownCap_ge w (xs.length + ys.length) old e; have hcm := grownCap_le_maxLen w (xs.length + ys.length) old e hm63; have := eA9 (e := e) (t := t) (xs := xs ++ ys) (flat := flat ++ flatx) (cap := grownCap w (xs.length + ys.length) old e) (p := p) (q := q) hk h hfr hsub
   (sA7 w _) (heap_alloc_new w.drew (.cells (flat.toArray ++ flatx.toArray ++ Builtin.zeroCells z.cells (grownCap w (xs.length + ys.length) old e - (xs.length + ys.length))) e)) (nA1 _ _ _ _ hfl hflx) (by simp; omega) hcm ?_ ?_ hq hm
  · simpa using this
  · simp only [Array.size_append, List.size_toArray, size_zeroCells, hzs, hl, hlx, hsz, ← Nat.add_mul]; congr 1; omega
  · have : (xs ++ ys).length * t.n = (flat ++ flatx).length := by simp [hl, hlx, Nat.add_mul]
    rw [this]; simp only [Array.toList_append, List.append_assoc]; rw [← List.append_assoc]; exact List.take_left
 rcases hax with ⟨rfl, rfl⟩ | ⟨bx, qx, rfl, hcx⟩
 · have hy : ys = [] := by
    cases ys with
    | nil => rfl
    | cons y ys =>
      have : 0 < (y :: ys).length * t.n := Nat.mul_pos (by simp) (by omega); simp only [List.length_nil] at hlx; omega
   subst hy
   rcases hvb with ⟨rfl, rfl⟩ | ⟨ab, cap, rfl, hlc, hc, _⟩
   · cases ax with
     | none => exact ⟨.slice none 0 0, w, by simp [Builtin.append_, run_underlying hst, sizeOf, typeInfo, hi, Builtin.lenOf, Builtin.firstCells], aA6 hk h hfr hsub hq hm⟩
     | some _ => exact ⟨.slice none 0 0, w, by simp [Builtin.append_, run_underlying hst, sizeOf, typeInfo, hi, Builtin.lenOf, Builtin.firstCells, loadCells, loadCellsFrom], aA6 hk h hfr hsub hq hm⟩
   · simp at hc; omega
 · rcases hvb with ⟨rfl, rfl⟩ | ⟨ab, cap, rfl, hlc, hc, hcell⟩
   · by_cases hy : ys.length = 0
     · have hy' : ys = [] := List.eq_nil_of_length_eq_zero hy; subst hy'; exact ⟨.slice none 0 0, w, by simp [Builtin.append_, run_underlying hst, sizeOf, typeInfo, hi, Builtin.lenOf, Builtin.firstCells, loadCells, loadCellsFrom], aA6 hk h hfr hsub hq hm⟩
     · have hf0 : flat = [] := hfl; subst hf0; have hr := run_append_nil (P := P) w st ty e i z hst hi hz ⟨bx, qx, none⟩ ys.length capx flatx (by rw [hlx, hsz]) (fun j v hv => by rw [oA0]; exact hcx j v hv) (by omega) (by simp at h63; omega)
        (by simp only [List.length_nil, Nat.zero_add] at hb; omega)
       have := fin 0 (by simp; omega); simp only [List.length_nil, Nat.zero_add, List.nil_append] at this hr ⊢; exact ⟨_, _, hr, by simpa using this⟩
   · have hr := run_append_grow (P := P) w st ty e i z hst hi hz ab xs.length cap flat (by rw [hl, hsz]) (fun j v hv => hcell j v hv) ⟨bx, qx, none⟩ ys.length capx flatx (by rw [hlx, hsz]) (fun j v hv => by rw [oA0]; exact hcx j v hv) hc h63
      (growslice_fits hc hb)
     exact ⟨_, _, hr, fin cap hc⟩
theorem qA6 {σ0 : Nat → Value} {N0 : Nat → Prop} {m0 : Mem} (hk : Rx.Keeps (rx cx σ0 N0 m0 w) (rx cx σ N m w)) (h : RepM cx σ N m w) (hfr : N fr) (hsub : ∀ id, N0 id → ¬ (fr ≤ id ∧ id < fr + 32) → N id)
 {st ty e : TypeId} {i : TypeInfo} {t : Ty} (hst : P.underlying st = some (.slice e)) (hi : P.info? e = some i) {a0 ax : Option Addr} {capx : Nat} {p q : Prop} (hq : q) {u0 : Heap} (hm : m = updM m0 u0) :
 ∃ r w', (Builtin.append_ #[st, st] ty #[.slice a0 0 0, .slice ax 0 capx]).run P w = .ok r w' ∧ Res cx σ0 N0 m0 w fr ⟨p, .one (.row fr), u0 ++ [(fr, .row e t [])], q⟩ r w' :=
 ⟨.slice a0 0 0, w, by cases a0 <;> cases ax <;> simp [Builtin.append_, run_underlying hst, sizeOf, typeInfo, hi, Builtin.lenOf, Builtin.firstCells, loadCells, loadCellsFrom, storeCells], aA6 hk h hfr hsub hq hm⟩
theorem lB7 (h : RepM cx σ N m w) (hfr0 : N fr) {id : Nat} {e : TypeId} {t : Ty} {xs zs : List t.den} (hn : ¬ N id) (hm : m id = .row e t xs) {g n cap : Nat} {cur : Array Value} {w' : World} (hσ : σ id = .slice (some ⟨g, 0, none⟩) n cap)
 (hw : ∀ k, k ≠ g → w'.heap[k]? = w.heap[k]?) (hos : w'.os = w.os) (htape : w'.tape = w.tape) (hout : w'.output = w.output) (hsz : w.heap.size ≤ w'.heap.size ∧ w.drawn ≤ w'.drawn) (hc0 : 0 < cap)
 (hg : w'.heap[g]? = some (.cells cur e (0, 0))) (hlc : zs.length ≤ cap) (hcm : cap ≤ maxLen) (hcs : cur.size = cap * t.n) {flat : List Value} (hfl : roAll (ro w (Owned cx σ m) t) zs flat) (htk : cur.toList.take (zs.length * t.n) = flat) {p q : Prop} (hq : q) :
 Res cx σ N m w fr ⟨p, .one (.row fr), [(id, .dead), (fr, .row e t zs)], q⟩ (.slice (some ⟨g, 0, none⟩) zs.length cap) w' := by
 have hne : id ≠ fr := fun k => hn (k ▸ hfr0); have hm1 : updM m [(id, Blk.dead), (fr, Blk.row e t zs)] = upd (upd m id .dead) fr (.row e t zs) := rfl; have v1 : upd (upd m id Blk.dead) fr (.row e t zs) id = .dead := by rw [iA0 _ _ hne, upd_same]
 have v2 : upd (upd m id Blk.dead) fr (.row e t zs) fr = .row e t zs := upd_same _ _ _; have v3 : ∀ i, i ≠ id → i ≠ fr → upd (upd m id Blk.dead) fr (.row e t zs) i = m i := fun i h1 h2 => by rw [iA0 _ _ h2, iA0 _ _ h1]
 obtain ⟨g1, g2⟩ := h.step (σ' := upd σ fr (.slice (some ⟨g, 0, none⟩) zs.length cap)) (N' := Nx N fr) (m' := upd (upd m id .dead) fr (.row e t zs)) (w' := w') (fun i => i = id ∨ i = fr) (fun i k => k.1)
  (fun i k => by
    have h2 : i ≠ fr := fun e => k.2 (by omega); by_cases h1 : i = id
    · rw [h1, v1]
    · rw [v3 i h1 h2]; exact h.fresh i k.1)
  (fun i k => by simp only [not_or] at k; exact ⟨v3 i k.1 k.2, iA0 _ _ k.2⟩) (fun i k => iA0 _ _ (fun e => k (e ▸ hfr0)))
  (fun k _ hx => hw k (fun e => hx id (.inl rfl) (by rw [hm]; rfl) (by rw [hσ, e]; exact .inl (gA0 hc0)))) hsz hos htape hout
  (fun i b hi ho hb => by
    rcases hi with rfl | rfl
    · rw [v1] at ho; cases ho
    · rw [upd_same, hb_slice, gA0 hc0] at hb; exact .inr ⟨id, .inl rfl, by rw [hm]; rfl, by rw [hσ, hb_slice, gA0 hc0]; exact hb⟩)
  (fun i i' b hi hi' ho ho' _ _ => by
    rcases hi with rfl | rfl <;> rcases hi' with rfl | rfl <;> first | rfl | (rw [v1] at ho; cases ho) | (rw [v1] at ho'; cases ho'))
  (fun i hi => by
    rcases hi with rfl | rfl
    · rw [iA0 _ _ hne]; exact h.hone i
    · rw [upd_same]; rfl)
  (fun hk i hi => by
    rcases hi with rfl | rfl
    · rw [v1]; trivial
    · rw [v2]; exact ⟨zs.length, flat, rfl, by
       simp only [rx]; rw [upd_same]; exact bA4 (nA0 (fun x c => qA0 t x c) _ _ hfl) hg hlc hcm hcs htk, fA0 (hA0 hk.k t) _ _ hfl⟩)
 refine ⟨_, hm1 ▸ g1, hm1 ▸ g2, ?_, hq⟩; unfold repA repC; exact ⟨fun k => k.2 (by omega), by simp only [rx]; rw [upd_same]⟩
theorem qD3 {O : Nat → Prop} {t : Ty} {xs ys : List t.den} {us : List Value} (hy : roAll (ro w O t) ys us) {lo : Nat} (hl : lo + ys.length ≤ xs.length) (flat : List Value) (hf : roAll (ro w O t) xs flat) :
 lo * t.n + us.length ≤ flat.length ∧ roAll (ro w O t) (xs.take lo ++ (ys ++ xs.drop (lo + ys.length))) (flat.take (lo * t.n) ++ us ++ flat.drop (lo * t.n + us.length)) := by
 have hyl := nA0 (fun x c => qA0 t x c) _ _ hy; obtain ⟨pre, vs, post, f1, f2, f3, f4, f5⟩ := kA5 (fun x c => qA0 t x c) hf (Nat.le_add_right lo ys.length) hl; have hvl : vs.length = us.length := by
  rw [nA0 (fun x c => qA0 t x c) _ _ f4, hyl]; congr 1; simp; omega
 subst f1; refine ⟨by simp only [List.length_append]; omega, ?_⟩; have e1 : (pre ++ (vs ++ post)).take (lo * t.n) = pre := by rw [← f2]; exact List.take_left
 have e2 : (pre ++ (vs ++ post)).drop (lo * t.n + us.length) = post := by
  rw [← f2, ← hvl, ← List.append_assoc, ← List.length_append]; exact List.drop_left
 rw [e1, e2, List.append_assoc]; exact nA1 _ _ _ _ f3 (nA1 _ _ _ _ hy f5)
theorem jC4 (h : RepM cx σ N m w) {id : Nat} {e : TypeId} {u : Ty} {xs ys : List u.den} (hm : m id = .row e u xs) {lo len : Nat} {v : Value} (hx : repC (rx cx σ N m w) (.win id u.n lo len) v) (hpos : 0 < u.n) (hy0 : 0 < ys.length)
 {us : List Value} (hy : roAll (ro w (Owned cx σ m) u) ys us) {off : Nat} (hl : lo + off + ys.length ≤ xs.length) :
 ∃ b cap w', v = .slice (some ⟨b, lo * u.n, none⟩) len (cap - lo) ∧ lo + len ≤ xs.length ∧ xs.length ≤ cap ∧ (storeCells ⟨b, lo * u.n + off * u.n, none⟩ us).run P w = .ok () w' ∧ w.heap.size ≤ w'.heap.size ∧
   RepM cx σ N (upd m id (.row e u (xs.take (lo + off) ++ (ys ++ xs.drop (lo + off + ys.length))))) w' ∧ Rx.Keeps (rx cx σ N m w) (rx cx σ N (upd m id (.row e u (xs.take (lo + off) ++ (ys ++ xs.drop (lo + off + ys.length))))) w') := by
 have hyl := nA0 (fun x c => qA0 u x c) _ _ hy; have hx' := hx; unfold repC at hx'; have hyy : 0 < ys.length * u.n := Nat.mul_pos hy0 hpos; obtain ⟨g, cap, w', g1, g2, g3, g3', g4, g5⟩ := lC9 (P := P) h hx'.1 hm (off := (lo + off) * u.n) (us := us) (sA5 _ _ hy (fun x c hh => pB2 u x c hh)) (by omega)
  (xs' := xs.take (lo + off) ++ (ys ++ xs.drop (lo + off + ys.length))) (by simp; omega) (fun flat hf => qD3 hy hl flat hf)
 obtain ⟨q1, q2, a', q3, q4⟩ := uA4 hx (by simp only [rx]; exact g1); obtain ⟨b, e1, rfl⟩ := q4 (by omega); simp only [Option.some.injEq, Addr.mk.injEq, and_true] at e1; subst e1; exact ⟨g, cap, w', q3, q1, g2, by rw [← Nat.add_mul]; exact g3, g3', g4, g5⟩
theorem nB9 (h : RepM cx σ N m w) {st ty e : TypeId} {i : TypeInfo} {t : Ty} (hst : P.underlying st = some (.slice e)) (hi : P.info? e = some i) (hsz : i.size = t.n) (hpos : 0 < i.size) {id sz lo len : Nat} {vb : Value}
 (hb : repC (rx cx σ N m w) (.win id sz lo len) vb) {ys : List t.den} {ax : Option Addr} {capx : Nat} {flatx : List Value} (hflx : roAll (ro w (Owned cx σ m) t) ys flatx)
 (hax : (capx = 0 ∧ flatx = []) ∨ ∃ b q, ax = some ⟨b, q, none⟩ ∧ ∀ j u, flatx[j]? = some u → w.cell? ⟨b, q + j, none⟩ = some u) (hp : (appWin e t m ys id sz lo len).pre) :
 ∃ r w', (Builtin.append_ #[st, st] ty #[vb, .slice ax ys.length capx]).run P w = .ok r w' ∧ Res cx σ N m w fr (appWin e t m ys id sz lo len) r w' := by
 unfold appWin at hp ⊢; split at hp
 · rename_i e' u xs hm; split at hp
   · rename_i xs' hc; obtain ⟨e1, rfl⟩ := aA1 hc; subst e1; simp only [hc]; split at hp
     · rename_i he; obtain ⟨rfl, rfl⟩ := he; simp only [and_self, if_true]; obtain ⟨p1, p2⟩ := hp; have p2 : lo + len + ys.length ≤ xs.length := p2
       rcases p1 with p1 | p0
       case inr =>
        have ys0 : ys = [] := List.eq_nil_of_length_eq_zero p0; subst ys0; have hb2 := h.blk id; rw [hm] at hb2; obtain ⟨a2, cap2, _, z1, z2, _⟩ := yA1 hb2; unfold repC at hb; obtain ⟨hn, a0, n0, c0, a1, r1, r2, r3, r4, r5⟩ := hb; simp only [rx] at r1 hn; rw [z1] at r1; simp only [Value.slice.injEq] at r1; obtain ⟨rfl, rfl, rfl⟩ := r1; subst r4; have hroom : len ≤ cap2 - lo := by omega
        have hsame : updM m [(id, Blk.row e' u (xs.take (lo + len) ++ ([] ++ xs.drop (lo + len + 0))))] = m := by
         rw [show xs.take (lo + len) ++ ([] ++ xs.drop (lo + len + 0)) = xs by simp]; funext i; show (if id = i then Blk.row e' u xs else m i) = m i; by_cases hi0 : id = i
         · rw [if_pos hi0, ← hi0, hm]
         · rw [if_neg hi0]
        refine ⟨.slice a1 len (cap2 - lo), w, ?_, σ, ?_, ?_, ?_, trivial⟩
        · cases a1 <;> cases ax <;> simp [Builtin.append_, run_underlying hst, sizeOf, typeInfo, hi, Builtin.lenOf, hroom, Builtin.firstCells, loadCells, loadCellsFrom, storeCells]
        all_goals simp only [List.length_nil, hsame]
        · exact (h.weaken (N' := Nx N fr) (fun _ k => k.1)).1
        · exact (h.weaken (N' := Nx N fr) (fun _ k => k.1)).2
        · unfold repA repC; simp only [rx]; exact ⟨fun k => hn k.1, _, xs.length, cap2, _, z1, r2, r3, rfl, r5⟩
       obtain ⟨b, cap, w', rfl, k1, k2, k3, k3', k4, k5⟩ := jC4 (P := P) (u := u) (off := len) (ys := ys) h hm hb (by omega) p1 hflx p2; have hyl := nA0 (fun x c => qA0 u x c) _ _ hflx; have hyy : 0 < ys.length * u.n := Nat.mul_pos p1 (by omega)
       rcases hax with ⟨_, rfl⟩ | ⟨bx, qx, rfl, hcx⟩
       · simp at hyl; omega
       · have hfc := run_firstCells_some (P := P) w i.size ys.length ⟨bx, qx, none⟩ ys.length capx flatx (by rw [hyl, hsz]) (fun j v hv => by rw [oA0]; exact hcx j v hv); have hroom : len + ys.length ≤ cap - lo := by omega
         refine ⟨.slice (some ⟨b, lo * u.n, none⟩) (len + ys.length) (cap - lo), w', ?_, ?_⟩
         · have e5 : Addr.add ⟨b, lo * u.n, none⟩ (len * i.size) = ⟨b, lo * u.n + len * u.n, none⟩ := by rw [oA0, hsz]
           simp [Builtin.append_, run_underlying hst, sizeOf, typeInfo, hi, Builtin.lenOf, hroom, hfc, e5, k3]
         · obtain ⟨g3, g4⟩ := k4.weaken (N' := Nx N fr) (fun _ k => k.1); have hmm : updM m [(id, Blk.row e' u (xs.take (lo + len) ++ (ys ++ xs.drop (lo + len + ys.length))))] = upd m id (.row e' u (xs.take (lo + len) ++ (ys ++ xs.drop (lo + len + ys.length)))) := rfl; refine ⟨σ, ?_, ?_, ?_, trivial⟩ <;> simp only [hmm]
           · exact g3
           · exact ⟨k5.k.trans g4.k (by simpa [rx] using k3'), fun _ _ => rfl, fun _ k => k.1⟩
           · unfold repC at hb; unfold repA repC; obtain ⟨hn, a0, n0, c0, a1, r1, r2, r3, r4, r5⟩ := hb; simp only [rx] at r1 hn ⊢; have hb2 := h.blk id; rw [hm] at hb2; obtain ⟨a2, cap2, _, z1, z2, _⟩ := yA1 hb2; rw [z1] at r1; simp only [Value.slice.injEq] at r1; obtain ⟨rfl, rfl, rfl⟩ := r1; simp only [Value.slice.injEq] at r4; refine ⟨fun k => hn k.1, a2, xs.length, cap2, _, z1, by omega, z2, by rw [r4.2.2], fun hlt => ?_⟩; obtain ⟨b', w1, w2⟩ := r5 hlt; exact ⟨b', w1, by rw [r4.1, w2]⟩
     · exact hp.elim
   · exact hp.elim
 · exact hp.elim
theorem yA7 (h : RepM cx σ N m w) (hfr : ∀ id, fr ≤ id → id < fr + 32 → N id) (ht : TabOK P T) {st ty : TypeId} {b x : C1} {vb vx : Value} (hb : repC (rx cx σ N m w) b vb) (hx : repC (rx cx σ N m w) x vx)
 (hp : (appE T st m fr b x).pre) : ∃ r w', (Builtin.append_ #[st, st] ty #[vb, vx]).run P w = .ok r w' ∧ Res cx σ N m w fr (appE T st m fr b x) r w' := by
 have hfr0 : N fr := hfr fr (by omega) (by omega); have k0 : Rx.Keeps (rx cx σ N m w) (rx cx σ N m w) := ⟨Keep.refl _ _, fun _ _ => rfl, fun _ h => h⟩; unfold appE at hp ⊢; split at hp
 · rename_i e hd; split at hp
   · rename_i t hty; split at hp
     · rename_i ys hv; have hst := (TI.of_ok ht st (fun k => by rw [k] at hd; cases hd)).slice e hd; have hte := TI.of_ok ht e (fun k => by rw [k] at hty; cases hty); obtain ⟨i, hi, hs, hby, z, hz, hzs, _⟩ := hte.info; obtain ⟨hun, hpos, hbp⟩ := hte.ty t hty; obtain ⟨ax, ny, capx, flatx, rfl, rfl, hlcx, hcmx, hflx, hax⟩ := rA4 h hv hx; have hbytes : i.bytes = (TI.of T e).bytes := hby; have hb63 : ∀ n, n * (TI.of T e).bytes ≤ 140737488355328 → n ≤ maxLen := by
        intro n hn; have := Nat.le_mul_of_pos_right n hbp; simp only [maxLen]; omega
       split at hp
       · -- nil
         unfold repC at hb; subst hb; obtain ⟨r, w', hr, hres⟩ := tA4 (P := P) (ty := ty) (xs := ([] : List t.den)) (ys := ys) (vb := .slice none 0 0) (flat := []) (p := ys.length * (TI.of T e).bytes ≤ 140737488355328) (q := True) (u0 := []) k0 h hfr0 (fun id hid _ => hid) hst hi hz (by omega) (by omega) (by omega) rfl
          (.inl ⟨rfl, rfl⟩) hflx hax (by simpa [hbytes] using hp) (by simpa using hb63 _ hp) trivial rfl
         exact ⟨r, w', hr, by simpa using hres⟩
       · -- a capped slice
         rename_i u xs; split at hp
         · rename_i xs' hc; obtain ⟨e1, rfl⟩ := aA1 hc; subst e1; simp only [hc]; unfold repC at hb; obtain ⟨⟨a, len, cap, e1, e2, e3, e4, e5⟩, hcap⟩ := hb; simp at e1; obtain ⟨a', n, e6⟩ := hcap rfl; rw [e1] at e6; simp at e6; obtain ⟨rfl, e7, e8⟩ := e6; obtain ⟨hne', hbb⟩ := hp; by_cases hee : xs = [] ∧ ys = []
           · obtain ⟨rfl, rfl⟩ := hee; have hc0 : cap = len := e8.trans e7.symm; have hl0 : len = 0 := by simpa using e2
             subst hl0; subst hc0; rw [e1]; obtain ⟨r, w', hr, hres⟩ := qA6 (P := P) (ty := ty) (t := u) (a0 := a) (ax := ax) (capx := capx) (p := (0 < ([] : List u.den).length ∨ ([] : List u.den) = []) ∧ (([] : List u.den).length + ([] : List u.den).length) * (TI.of T e).bytes ≤ 140737488355328) (q := True) (u0 := []) k0 h hfr0 (fun id hid _ => hid) hst hi trivial rfl; exact ⟨r, w', hr, by simpa using hres⟩
           have hne : 0 < ys.length := by
            rcases hne' with h1 | h1
            · exact h1
            · cases ys with
              | nil => exact absurd ⟨h1, rfl⟩ hee
              | cons _ _ => simp
           rcases e5 with e9 | ⟨bb, q, flat, rfl, e9, e10⟩
           · have hxs : xs = [] := List.eq_nil_of_length_eq_zero (by omega); subst hxs; have hvb' : (vb = .slice none 0 0 ∧ ([] : List u.den) = []) ∨ ∃ ab cap, vb = .slice (some ab) ([] : List u.den).length cap ∧ ([] : List u.den).length ≤ cap ∧ cap < ([] : List u.den).length + ys.length ∧ ∀ j q, ([] : List Value)[j]? = some q → w.cell? (ab.add j) = some q := by
              cases a with
              | none => exact .inl ⟨by rw [e1, e9, e2]; rfl, rfl⟩
              | some ab => exact .inr ⟨ab, 0, by rw [e1, e9, e2], Nat.le_refl _, by simpa using hne, fun j q hq => by simp at hq⟩
             obtain ⟨r, w', hr, hres⟩ := tA4 (P := P) (ty := ty) (xs := ([] : List u.den)) (ys := ys) (vb := vb) (flat := []) (p := (0 < ys.length ∨ ([] : List u.den) = []) ∧ (([] : List u.den).length + ys.length) * (TI.of T e).bytes ≤ 140737488355328) (q := True) (u0 := []) k0 h hfr0 (fun id hid _ => hid) hst hi hz (by omega) (by omega) (by omega) rfl
              hvb' hflx hax (by rw [hbytes]; exact hbb) (hb63 _ hbb) trivial rfl
             exact ⟨r, w', hr, hres⟩
           · obtain ⟨r, w', hr, hres⟩ := tA4 (P := P) (ty := ty) (xs := xs) (ys := ys) (vb := vb) (flat := flat) (p := (0 < ys.length ∨ xs = []) ∧ (xs.length + ys.length) * (TI.of T e).bytes ≤ 140737488355328) (q := True) (u0 := []) k0 h hfr0 (fun id hid _ => hid) hst hi hz (by omega) (by omega) (by omega) e9
              (.inr ⟨⟨bb, q, none⟩, cap, by rw [e1, e2], by omega, by omega, fun j u hu => by rw [oA0]; exact (e10 j u hu).2⟩) hflx hax (by rw [hbytes]; exact hbb) (hb63 _ hbb) trivial rfl
             exact ⟨r, w', hr, hres⟩
         · exact hp.elim
       · -- a row
         rename_i id; split at hp
         · rename_i e' u xs hm; split at hp
           · rename_i xs' hc; obtain ⟨e1, rfl⟩ := aA1 hc; subst e1; split at hp
             · rename_i ee; subst ee; simp only [hc, if_true]; have hbb := hp; unfold repC at hb; obtain ⟨hn, rfl⟩ := hb; simp only [rx] at hn ⊢; have hbid := h.blk id; rw [hm] at hbid; obtain ⟨n', flat, rfl, k1, k2⟩ := hbid; simp only [rx] at k1 k2; have hne : id ≠ fr := fun e => hn (e ▸ hfr0); obtain ⟨q1, q2⟩ := h.kill id; have hfl1 := fA0 (hA0 q2.k u) _ _ k2; have hflx1 := fA0 (hA0 q2.k u) _ _ hflx; have grow : ((σ id = .slice none 0 0 ∧ xs = []) ∨ ∃ ab cap, σ id = .slice (some ab) xs.length cap ∧ xs.length ≤ cap ∧ cap < xs.length + ys.length ∧ ∀ j u, flat[j]? = some u → w.cell? (ab.add j) = some u) →
                ∃ r w', (Builtin.append_ #[st, st] ty #[σ id, .slice ax ys.length capx]).run P w = .ok r w' ∧ Res cx σ N m w fr ⟨(xs.length + ys.length) * (TI.of T e').bytes ≤ 140737488355328, .one (.row fr), [(id, .dead), (fr, .row e' u (xs ++ ys))], True⟩ r w' := by
                intro hvb; obtain ⟨r, w', hr, hres⟩ := tA4 (P := P) (ty := ty) (xs := xs) (ys := ys) (vb := σ id) (flat := flat) (p := (xs.length + ys.length) * (TI.of T e').bytes ≤ 140737488355328) (q := True) (u0 := [(id, .dead)]) q2 q1 hfr0 (fun id hid _ => hid) hst hi hz (by omega) (by omega) (by omega) hfl1
                 hvb hflx1 hax (by rw [hbytes]; exact hbb) (hb63 _ hbb) trivial rfl
                exact ⟨r, w', hr, hres⟩
               rcases k1.2 with ⟨e2, a0, e1⟩ | ⟨g, cap, cur, hz0, e1, hg, hlc, hcm, hcs, htk⟩
               · have hx0 := List.eq_nil_of_length_eq_zero e2; subst hx0
                 cases a0 with
                 | none => exact grow (.inl ⟨e1, rfl⟩)
                 | some ab =>
                   by_cases hy0 : ys = []
                   · subst hy0; rw [e1]; obtain ⟨r, w', hr, hres⟩ := qA6 (P := P) (ty := ty) (t := u) (a0 := some ab) (ax := ax) (capx := capx) (p := (([] : List u.den).length + ([] : List u.den).length) * (TI.of T e').bytes ≤ 140737488355328) (q := True) (u0 := [(id, .dead)]) q2 q1 hfr0 (fun id hid _ => hid) hst hi trivial rfl; exact ⟨r, w', hr, by simpa using hres⟩
                   · refine grow (.inr ⟨ab, 0, e1, Nat.le_refl _, ?_, fun j v hv => ?_⟩)
                     · cases ys with
                       | nil => exact absurd rfl hy0
                       | cons _ _ => simp
                     · rw [show flat = [] from k2] at hv; simp at hv
               · by_cases hroom : xs.length + ys.length ≤ cap
                 · have hll := nA0 (fun x c => qA0 u x c) _ _ k2; have hlx := nA0 (fun x c => qA0 u x c) _ _ hflx; have hcz : cur.size = cur.toList.length := by simp
                   rcases hax with ⟨rfl, rfl⟩ | ⟨bx, qx, rfl, hcx⟩
                   · have hy : ys = [] := List.eq_nil_of_length_eq_zero (by omega); subst hy; refine ⟨.slice (some ⟨g, 0, none⟩) xs.length cap, w, ?_, ?_⟩
                     · rw [e1]; simp only [List.length_nil, Nat.add_zero] at hroom; cases ax <;> simp [Builtin.append_, run_underlying hst, sizeOf, typeInfo, hi, Builtin.lenOf, Builtin.firstCells, loadCells, loadCellsFrom, hroom, storeCells]
                     · have := lB7 (fr := fr) (zs := xs ++ []) (p := (xs.length + ([] : List u.den).length) * (TI.of T e').bytes ≤ 140737488355328) (q := True) h hfr0 hn hm e1 (fun _ _ => rfl) rfl rfl rfl ⟨Nat.le_refl _, Nat.le_refl _⟩ hz0 hg (by simpa using hlc) hcm hcs (by simpa using k2) (by simpa using htk) trivial; simpa using this
                   · have hfit : xs.length * i.size + flatx.length ≤ cur.size := by
                      rw [hlx, hcs, show i.size = u.n by omega, ← Nat.add_mul]; exact Nat.mul_le_mul_right _ hroom
                     have hr := run_append_room (P := P) w st ty e' i hst hi g xs.length cap cur hg ⟨bx, qx, none⟩ ys.length capx flatx (by rw [hlx]; congr 1; omega) (fun j v hv => by rw [oA0]; exact hcx j v hv)
                      (sA5 _ _ hflx (fun x c hh => pB2 u x c hh)) hroom hfit
                     rw [← e1] at hr; refine ⟨_, _, hr, ?_⟩; have hsz' : i.size = u.n := by omega
                     have hlen : (xs ++ ys).length * u.n = (flat ++ flatx).length := by rw [List.length_append, List.length_append, hll, hlx, Nat.add_mul]
                     have := lB7 (fr := fr) (zs := xs ++ ys) (p := (xs.length + ys.length) * (TI.of T e').bytes ≤ 140737488355328) (q := True) h hfr0 hn hm e1 (fun k hk => setRow_other w g k _ hk) rfl rfl rfl ⟨by simp, Nat.le_refl _⟩ hz0
                      (setRow_heap w g cur (cur.toList.take (xs.length * i.size) ++ flatx ++ cur.toList.drop (xs.length * i.size + flatx.length)).toArray e' (0, 0) hg) (by simpa using hroom) hcm
                      (by rw [← hcs, List.size_toArray, List.length_append, List.length_append, List.length_take, List.length_drop]; omega)
                      (nA1 _ _ _ _ k2 hflx)
                      (by
                        rw [hlen, hsz', htk]; show List.take _ (flat ++ flatx ++ _) = _; exact List.take_left) trivial
                     simpa using this
                 · refine grow (.inr ⟨⟨g, 0, none⟩, cap, e1, hlc, by omega, fun j v hv => ?_⟩); rw [oA0, Nat.zero_add]; exact hA1 k1 (by rw [e1]; exact gA0 hz0) j v hv
             · exact hp.elim
           · exact hp.elim
         · exact hp.elim
       · -- a window
         exact nB9 h hst hi (by omega) (by omega) hb hflx hax hp
       · exact hp.elim
     · exact hp.elim
   · exact hp.elim
 · exact hp.elim
end
end Go.Ev

namespace Go.Ev
section
variable {cx : Cx} {σ : Nat → Value} {N : Nat → Prop} {m : Mem} {w : World} {P : Program} {T : Tab} {G : Env} {o : Oper} {fr : Nat} {ρ : Operand → Value} {av : Operand → AV}
/-! ### filling -/
theorem zB7 : ∀ (vs : List Value) (k : Nat) (cells : List Value) (off : Nat), off + k + vs.length ≤ cells.length →
 (vs.zipIdx k).foldl (fun (cs : Array Value) (p : Value × Nat) => cs.setIfInBounds (off + p.2) p.1) cells.toArray = (cells.take (off + k) ++ vs ++ cells.drop (off + k + vs.length)).toArray
 | [], k, cells, off, h => by simp
 | v :: vs, k, cells, off, h => by
   simp only [List.zipIdx_cons, List.foldl_cons]; have hlt : off + k < cells.length := by simp at h; omega
   have e : cells.toArray.setIfInBounds (off + k) v = (cells.set (off + k) v).toArray := by simp
   rw [e, zB7 vs (k + 1) (cells.set (off + k) v) off (by simp at h ⊢; omega)]; congr 1; have h1 : (cells.set (off + k) v).take (off + (k + 1)) = cells.take (off + k) ++ [v] := by
    rw [← Nat.add_assoc, List.take_succ_eq_append_getElem (by simp; omega), List.take_set_of_le (by omega)]; simp
   have h2 : (cells.set (off + k) v).drop (off + (k + 1) + vs.length) = cells.drop (off + k + (v :: vs).length) := by
    rw [List.drop_set_of_lt (by omega)]; congr 1; simp; omega
   rw [h1, h2]; simp
theorem vB3 (place : Nat → Option (Nat × Nat)) (cells : List Value) (i : Nat) (v : Value) (rest : List (Nat × Value)) {off sz : Nat} (hp : place i = some (off, sz)) (hs : v.cells.size = sz) (hle : off + sz ≤ cells.length) :
 Instr.fill place cells.toArray ((i, v) :: rest) = Instr.fill place (cells.take off ++ v.cells.toList ++ cells.drop (off + v.cells.toList.length)).toArray rest := by
 have hf := zB7 v.cells.toList 0 cells off (by simp; omega); simp only [Nat.add_zero] at hf; have hz : v.cells.zipIdx.foldl (fun (cs : Array Value) (p : Value × Nat) => cs.setIfInBounds (off + p.2) p.1) cells.toArray = (cells.take off ++ v.cells.toList ++ cells.drop (off + v.cells.toList.length)).toArray := by
  rw [← hf, ← Array.foldl_toList, Array.toList_zipIdx]
 rw [Instr.fill]; simp only [hp]; rw [if_neg (by simp; omega)]; congr 1
theorem iA8 (hσ : ∀ id, (σ id).oneCell' = true) {fs : List (Nat × Nat × Bool)} {place : Nat → Option (Nat × Nat)} (hpl : ∀ i off sz ag, fs[i]? = some (off, sz, ag) → place i = some (off, sz)) :
 ∀ (parts : List (Nat × AV)) (pv : List (Nat × Value)) (cs cs' : List C1) (vs : List Value), fillC fs cs parts = some cs' → repCs (rx cx σ N m w) cs vs → oneAll vs →
   pv.length = parts.length → (∀ (k : Nat) (p : Nat × AV) (q : Nat × Value), parts[k]? = some p → pv[k]? = some q → q.1 = p.1 ∧ repA (rx cx σ N m w) p.2 q.2) →
   ∃ vs', Instr.fill place vs.toArray pv = some vs'.toArray ∧ repCs (rx cx σ N m w) cs' vs' ∧ oneAll vs'
 | [], pv, cs, cs', vs, hf, hr, h1, hl, _ => by
   have : pv = [] := List.eq_nil_of_length_eq_zero hl; subst this; simp [fillC] at hf; subst hf
   exact ⟨vs, rfl, hr, h1⟩
 | (i, a) :: parts, [], _, _, _, _, _, _, hl, _ => by simp at hl
 | (i, a) :: parts, (i', v) :: pv, cs, cs', vs, hf, hr, h1, hl, hall => by
   obtain ⟨e, ha⟩ := hall 0 (i, a) (i', v) rfl rfl; simp at e; subst e; rw [fillC] at hf; split at hf
   · rename_i off sz ag hfs; split at hf
     · rename_i hc; obtain ⟨c1, c2, c3, c4⟩ := hc; have c1 : a.cells.length = sz := c1; have ha : repA (rx cx σ N m w) a v := ha; have c4 : a.cells.all known = true := c4; have hne : a.cells ≠ [] := fun e => by rw [e] at c1; simp at c1; omega
       have hac := fA3 (x := rx cx σ N m w) hσ ha c4 hne; have hal := jA0 _ _ hac; have hvl := jA0 _ _ hr; have h1a := mA2 (x := rx cx σ N m w) hσ _ _ c4 hac; rw [vB3 place vs i' v pv (hpl i' off sz ag hfs) (by rw [← Array.length_toList]; omega) (by omega)]; refine iA8 hσ hpl parts pv _ cs' _ hf (lA3 hr hac) (fun u hu => ?_) (by simpa using hl) (fun k p q hp hq => hall (k + 1) p q (by simpa using hp) (by simpa using hq)); simp only [List.mem_append] at hu
       rcases hu with (hu | hu) | hu
       · exact h1 u (List.mem_of_mem_take hu)
       · exact h1a u hu
       · exact h1 u (List.mem_of_mem_drop hu)
     · cases hf
   · cases hf
theorem xC4 (h : RepM cx σ N m w) {t : TypeId} {parts : Array (Nat × Operand)} (ho : o.op = .build t parts) (ht : TabOK P T) (hU : isU (TI.of T t) = true)
 (hp : (buildU (List.map av (List.map (fun x => x.2) parts.toList))).pre) : Runs P w (Res cx σ N m w fr (buildU (List.map av (List.map (fun x => x.2) parts.toList)))) ((execOp ρ o).run P w) := by
 obtain ⟨i, hi, hs, hz⟩ := cA7 ht hU; have htt := TI.of_ok ht t (lC8 hU); obtain ⟨flds, hu, hfs, hall, hone⟩ := htt.struct [] (cB7 hU); have hf0 : flds = #[] := by
  have := congrArg List.length hfs; simp at this; exact Array.eq_empty_of_size_eq_zero this.symm
 subst hf0; have hp0 : parts = #[] := by
  obtain ⟨l⟩ := parts
  cases l with
  | nil => rfl
  | cons a l => exact hp.elim
 subst hp0; have hrun : (execOp ρ o).run P w = .ok (.value (.agg #[])) w := by
  simp [execOp, ho, Instr.build, wA0 hi hz, run_underlying hu, Value.cells, Instr.fill]
 refine bA0 hrun (rA0 h ?_); unfold repA; exact ⟨[], rfl, repCs_nil.2 rfl⟩
theorem wC9 (h : RepM cx σ N m w) (hfr : ∀ id, fr ≤ id → id < fr + 32 → N id) {t : TypeId} {parts : Array (Nat × Operand)} (ho : o.op = .build t parts) (ht : TabOK P T)
 (hx : ∀ x ∈ opsOf o.op, repA (rx cx σ N m w) (av x) (ρ x)) (hp : (opEff T G o ((opsOf o.op).map av) m fr).pre) : Runs P w (Res cx σ N m w fr (opEff T G o ((opsOf o.op).map av) m fr)) ((execOp ρ o).run P w) := by
 rw [ho] at hx hp ⊢; simp only [opEff, ho, opsOf] at hx hp ⊢; by_cases hU : isU (TI.of T t) = true
 · rw [if_pos hU] at hp ⊢; exact xC4 h ho ht hU hp
 rw [if_neg hU] at hp ⊢; split at hp
 · rename_i fs hd; split at hp
   · exact hp.elim
   · rename_i hz; rw [if_neg hz]; simp only [not_or] at hz; split at hp
     · rename_i cs hf; have htt := TI.of_ok ht t (fun e => by rw [e] at hd; cases hd); obtain ⟨i, hi, hs, hby, z, hzz, hzs, hzc⟩ := htt.info; obtain ⟨flds, hu, hfs, hall, hone⟩ := htt.struct fs hd; obtain ⟨σ', N', h1, h2, h3, h4, h5⟩ := nA3 (TI.of T t).zero fr z.cells.toList σ N m h (fun j hj => hfr _ (by omega) (by omega)) (hzc hz.1); have hplaces : flds.toList.mapM (fun f => (P.info? f.type).map fun i => (f.offset, i.size)) = some (flds.toList.map fun f => (f.offset, sizeB P f.type)) := by
        have : ∀ l : List Field, (∀ f ∈ l, f ∈ flds) → l.mapM (fun f => (P.info? f.type).map fun i => (f.offset, i.size)) = some (l.map fun f => (f.offset, sizeB P f.type)) := by
         intro l
         induction l with
         | nil => intro _; rfl
         | cons f l ih =>
           intro hl; obtain ⟨i, d, hi, _⟩ := hall f (hl f List.mem_cons_self); simp only [List.mapM_cons, hi, Option.map_some, ih (fun g hg => hl g (List.mem_cons_of_mem _ hg)), List.map_cons]; simp [sizeB, hi]
        exact this _ (fun f hf => by simpa using hf)
       obtain ⟨vs', hfill, hcs', h1'⟩ := iA8 (cx := cx) (σ := σ') (N := N') (m := updM m (mkZero (TI.of T t).zero fr).2) (w := w) h1.hone (fs := fs) (place := ((flds.toList.map fun f => (f.offset, sizeB P f.type)).toArray[·]?)) (fun k off sz ag hk => by
        rw [hfs, List.getElem?_map] at hk
        cases hq : flds.toList[k]? with
        | none => rw [hq] at hk; cases hk
        | some f =>
          rw [hq] at hk; simp at hk; simp only [List.getElem?_toArray, List.getElem?_map, hq, Option.map_some]; rw [hk.1, hk.2.1])
        _ (parts.toList.map fun p => (p.1, ρ p.2)) _ cs _ hf h3 h4 (by simp) (fun k p q hpk hqk => by
          rw [List.getElem?_map] at hqk
          cases hq : parts.toList[k]? with
          | none => rw [hq] at hqk; cases hqk
          | some pp =>
            rw [hq] at hqk; simp at hqk; subst hqk; have : ((parts.toList.map (·.1)).zip (parts.toList.map fun p => av p.2))[k]? = some (pp.1, av pp.2) := by
             simp [List.getElem?_zip_eq_some, hq]
            simp only [List.map_map] at hpk; rw [show ((fun x => x.fst) : Nat × Operand → Nat) = (·.1) from rfl] at hpk; have hpk' : p = (pp.1, av pp.2) := by
             have e2 : (List.map (av ∘ fun x => x.snd) parts.toList) = parts.toList.map fun p => av p.2 := rfl; rw [e2, this] at hpk; exact (Option.some.inj hpk).symm
            subst hpk'; refine ⟨rfl, pA0 h2 _ _ (hx pp.2 ?_)⟩; exact List.mem_map.2 ⟨pp, List.mem_of_getElem? hq, rfl⟩)
       have hb : P.built t (parts.toList.map fun p => (p.1, ρ p.2)) = some vs'.toArray := by
        unfold Program.built; rw [hi, hu]; simp only [hzz, hplaces]; rw [← Array.toArray_toList (xs := z.cells)]; exact hfill
       have hrun : (execOp ρ o).run P w = .ok (.value (.agg vs'.toArray)) w := by
        have := run_build (P := P) w t (parts.map fun p => (p.1, ρ p.2)) vs'.toArray (by simpa using hb); simp only [execOp, ho]; simp [this]
       have hN : ∀ id, Nx N fr id → N' id := fun id hid => h5 id hid.1 (by have := hid.2; omega); obtain ⟨g1, g2⟩ := h1.weaken hN; refine bA0 hrun ⟨σ', g1, ⟨h2.k.trans g2.k (Nat.le_refl _), fun id hid => (g2.σ id (fun k => hid (h2.N id k))).trans (h2.σ id hid), fun id hid => hid.1⟩, ?_, trivial⟩; unfold repA; exact ⟨vs', rfl, sA0 g2 _ _ hcs'⟩
     · exact hp.elim
 · rename_i n e u hd; split at hp
   case isFalse => exact hp.elim
   rename_i hty; rw [if_pos hty]; unfold buildA at hp ⊢; split at hp
   · exact hp.elim
   · rename_i hz; rw [if_neg hz]; simp only [not_or] at hz; split at hp
     · rename_i cs hf; have htt := TI.of_ok ht t (fun e => by rw [e] at hd; cases hd); obtain ⟨i, hi, hs, hby, z, hzz, hzs, hzc⟩ := htt.info; obtain ⟨hu, _⟩ := htt.arr n e u hd; have hte := TI.of_ok ht e (fun k => by rw [k] at hty; cases hty); obtain ⟨ii, hii, hsi, _⟩ := hte.info; have hun := (hte.ty u hty).1; obtain ⟨σ', N', h1, h2, h3, h4, h5⟩ := nA3 (TI.of T t).zero fr z.cells.toList σ N m h (fun j hj => hfr _ (by omega) (by omega)) (hzc hz.1); obtain ⟨vs', hfill, hcs', h1'⟩ := iA8 (cx := cx) (σ := σ') (N := N') (m := updM m (mkZero (TI.of T t).zero fr).2) (w := w) h1.hone (fs := arrFs n u.n) (place := fun i => some (i * ii.size, ii.size)) (fun k off sz ag hk => by
        unfold arrFs at hk; rw [List.getElem?_map] at hk
        cases hq : (List.range n)[k]? with
        | none => rw [hq] at hk; cases hk
        | some f =>
          have hkf : f = k := by
           obtain ⟨h1, h2⟩ := List.getElem?_eq_some_iff.1 hq; simpa using h2.symm
          rw [hq] at hk; simp at hk; rw [hsi, ← hun, ← hk.1, ← hk.2.1, hkf])
        _ (parts.toList.map fun p => (p.1, ρ p.2)) _ cs _ hf h3 h4 (by simp) (fun k p q hpk hqk => by
          rw [List.getElem?_map] at hqk
          cases hq : parts.toList[k]? with
          | none => rw [hq] at hqk; cases hqk
          | some pp =>
            rw [hq] at hqk; simp at hqk; subst hqk; have : ((parts.toList.map (·.1)).zip (parts.toList.map fun p => av p.2))[k]? = some (pp.1, av pp.2) := by
             simp [List.getElem?_zip_eq_some, hq]
            simp only [List.map_map] at hpk; rw [show ((fun x => x.fst) : Nat × Operand → Nat) = (·.1) from rfl] at hpk; have hpk' : p = (pp.1, av pp.2) := by
             have e2 : (List.map (av ∘ fun x => x.snd) parts.toList) = parts.toList.map fun p => av p.2 := rfl; rw [e2, this] at hpk; exact (Option.some.inj hpk).symm
            subst hpk'; refine ⟨rfl, pA0 h2 _ _ (hx pp.2 ?_)⟩; exact List.mem_map.2 ⟨pp, List.mem_of_getElem? hq, rfl⟩)
       have hb : P.built t (parts.toList.map fun p => (p.1, ρ p.2)) = some vs'.toArray := by
        unfold Program.built; rw [hi, hu]; simp only [hzz, hii]; rw [← Array.toArray_toList (xs := z.cells)]; exact hfill
       have hrun : (execOp ρ o).run P w = .ok (.value (.agg vs'.toArray)) w := by
        have := run_build (P := P) w t (parts.map fun p => (p.1, ρ p.2)) vs'.toArray (by simpa using hb); simp only [execOp, ho]; simp [this]
       have hN : ∀ id, Nx N fr id → N' id := fun id hid => h5 id hid.1 (by have := hid.2; omega); obtain ⟨g1, g2⟩ := h1.weaken hN; refine bA0 hrun ⟨σ', g1, ⟨h2.k.trans g2.k (Nat.le_refl _), fun id hid => (g2.σ id (fun k => hid (h2.N id k))).trans (h2.σ id hid), fun id hid => hid.1⟩, ?_, trivial⟩; unfold repA; exact ⟨vs', rfl, sA0 g2 _ _ hcs'⟩
     · exact hp.elim
 · exact hp.elim
end
end Go.Ev

namespace Go.Ev
section
variable {P : Program} {w : World} {t te : TypeId}
theorem qA5 (hp : P.underlying t = some (.pointer te)) (a : Addr) (d : Nat) : (Op.equalIn (d + 1) t (.pointer (some a)) (.pointer none)).run P w = .ok false w := by
 simp [Op.equalIn, run_underlying hp, sizeOf, typeInfo]
theorem jA6 (hp : P.underlying t = some (.pointer te)) (d : Nat) : (Op.equalIn (d + 1) t (.pointer none) (.pointer none)).run P w = .ok true w := by
 simp [Op.equalIn, run_underlying hp, sizeOf, typeInfo]
theorem tA6 (hp : P.underlying t = some (.pointer te)) (a : Addr) : (binOp .eql t (.pointer (some a)) (.pointer none)).run P w = .ok (.bool false) w := by
 simp only [binOp]; simp [Op.equal, Op.maxDepth, qA5 (w := w) hp a 9999]
theorem vA6 (hp : P.underlying t = some (.pointer te)) (a : Addr) : (binOp .neq t (.pointer (some a)) (.pointer none)).run P w = .ok (.bool true) w := by
 simp only [binOp]; simp [Op.equal, Op.maxDepth, qA5 (w := w) hp a 9999]
theorem dA8 (hp : P.underlying t = some (.pointer te)) : (binOp .eql t (.pointer none) (.pointer none)).run P w = .ok (.bool true) w := by
 simp only [binOp]; simp [Op.equal, Op.maxDepth, jA6 (w := w) hp 9999]
theorem mA8 (hp : P.underlying t = some (.pointer te)) : (binOp .neq t (.pointer none) (.pointer none)).run P w = .ok (.bool false) w := by
 simp only [binOp]; simp [Op.equal, Op.maxDepth, jA6 (w := w) hp 9999]
end
end Go.Ev
