/- Part. -/
import Derived.Test.YtabadacjbkhmkaaGreatDoorEvCellsToOps2
set_option linter.all false
namespace Go.Ev
section
variable {cx : Cx} {σ : Nat → Value} {N : Nat → Prop} {m : Mem} {w : World} {P : Program} {T : Tab} {G : Env} {o : Oper} {fr : Nat} {ρ : Operand → Value} {av : Operand → AV}
def upd {α : Type} (f : Nat → α) (k : Nat) (b : α) : Nat → α := fun i => if k = i then b else f i
theorem upd_same {α : Type} (f : Nat → α) (k : Nat) (b : α) : upd f k b k = b := by simp [upd]
theorem iA0 {α : Type} (f : Nat → α) {k i : Nat} (b : α) (h : i ≠ k) : upd f k b i = f i := by simp [upd, Ne.symm h]
theorem qA3 (w : World) : (∀ b, b < w.heap.size → w.heap[b]? = w.heap[b]?) ∧ w.os = w.os ∧ w.tape = w.tape ∧ w.output = w.output ∧ w.heap.size ≤ w.heap.size ∧ w.drawn ≤ w.drawn :=
 ⟨fun _ _ => rfl, rfl, rfl, rfl, Nat.le_refl _, Nat.le_refl _⟩
theorem oA1 (w : World) (ob : Obj) : (∀ b, b < w.heap.size → (w.alloc ob).heap[b]? = w.heap[b]?) ∧ (w.alloc ob).os = w.os ∧ (w.alloc ob).tape = w.tape ∧ (w.alloc ob).output = w.output ∧ w.heap.size ≤ (w.alloc ob).heap.size ∧ w.drawn ≤ (w.alloc ob).drawn :=
 ⟨fun _ hb => heap_alloc_old w ob hb, rfl, rfl, rfl, by simp, Nat.le_refl _⟩
theorem RepM.put (h : RepM cx σ N m w) {id : Nat} (hid : N id) (v : Value) (B : Blk) (w' : World) (hv : v.oneCell' = true)
 (hw : (∀ b, b < w.heap.size → w'.heap[b]? = w.heap[b]?) ∧ w'.os = w.os ∧ w'.tape = w.tape ∧ w'.output = w.output ∧ w.heap.size ≤ w'.heap.size ∧ w.drawn ≤ w'.drawn) (hb : ∀ b, own B = true → blkOf v = some b → w.heap.size ≤ b)
 (hrep : Rx.Keeps (rx cx σ N m w) (rx cx (upd σ id v) (fun i => N i ∧ i ≠ id) (upd m id B) w') → repB (rx cx (upd σ id v) (fun i => N i ∧ i ≠ id) (upd m id B) w') id B)
 (hnf : ∀ b, Go.Ev.hb v b → blkOf v = some b := by intro b h; first | exact hb_slice.1 h | exact hb_ptr.1 h | exact hb_map.1 h) :
 RepM cx (upd σ id v) (fun i => N i ∧ i ≠ id) (upd m id B) w' ∧ Rx.Keeps (rx cx σ N m w) (rx cx (upd σ id v) (fun i => N i ∧ i ≠ id) (upd m id B) w') := by
 obtain ⟨hold, hf⟩ := hw; refine h.step (fun i => i = id) (fun i hi => hi.1) (fun i hi => by rw [iA0 _ _ hi.2]; exact h.fresh i hi.1) (fun i hi => ⟨iA0 _ _ hi, iA0 _ _ hi⟩)
  (fun i hi => iA0 _ _ (fun e => hi (e ▸ hid))) (fun b hb _ => hold b hb) hf.2.2.2 hf.1 hf.2.1 hf.2.2.1 (fun i b hi ho hbl => ?_) (fun i i' b hi hi' _ _ _ _ => hi.trans hi'.symm) (fun i hi => ?_) (fun hk i hi => ?_)
 · subst hi; rw [upd_same] at ho hbl; exact .inl (hb b ho (hnf b hbl))
 · subst hi; rw [upd_same]; exact hv
 · subst hi; rw [upd_same]; exact hrep hk
theorem nA3 : ∀ (zs : List Z) (fr : Nat) (vs : List Value) (σ : Nat → Value) (N : Nat → Prop) (m : Mem), RepM cx σ N m w → (∀ j, j < zs.length → N (fr + j)) → zCells zs vs →
 ∃ σ' N', RepM cx σ' N' (updM m (mkZero zs fr).2) w ∧ Rx.Keeps (rx cx σ N m w) (rx cx σ' N' (updM m (mkZero zs fr).2) w) ∧ repCs (rx cx σ' N' (updM m (mkZero zs fr).2) w) (mkZero zs fr).1 vs ∧
   oneAll vs ∧ ∀ id, N id → (id < fr ∨ fr + zs.length ≤ id) → N' id
 | [], fr, vs, σ, N, m, h, _, hz => by
   rw [show vs = [] from hz]
   exact ⟨σ, N, h, ⟨Keep.refl _ _, fun _ _ => rfl, fun _ h => h⟩, repCs_nil.2 rfl, (fun _ hh => by cases hh), fun _ h _ => h⟩
 | .c c :: zs, fr, vs, σ, N, m, h, hN, hz => by
   obtain ⟨v, r, rfl, ⟨hv, hc⟩, hr⟩ := hz; obtain ⟨σ', N', h1, h2, h3, h4, h5⟩ := nA3 zs fr r σ N m h (fun j hj => hN j (by simp; omega)) hr; refine ⟨σ', N', h1, h2, repCs_cons.2 ⟨v, r, rfl, ?_, h3⟩, fun u hu => ?_, fun id hid hr => h5 id hid (by simp at hr; omega)⟩
   · subst hv
     cases v with
     | int k n => unfold repC; exact ⟨rfl, hc⟩
     | bool b => unfold repC; rfl
     | string s => unfold repC; exact ⟨rfl, hc⟩
     | slice a l cp => cases a <;> simp [constC] at hc ⊢; unfold repC; rw [hc.1, hc.2]
     | pointer a => cases a <;> simp [constC] at hc ⊢; unfold repC; rfl
     | nilFunc => unfold repC; rfl
     | map a => simp [constC] at hc ⊢; unfold repC; trivial
     | _ => simp [constC] at hc
   · cases List.mem_cons.1 hu with
     | inl e =>
       subst e; subst hv
       cases u <;> simp [constC] at hc <;> first | rfl | skip
     | inr e => exact h4 u e
 | .s e t :: zs, fr, vs, σ, N, m, h, hN, hz => by
   obtain ⟨v, r, rfl, hv, hr⟩ := hz; rw [show v = .slice none 0 0 from hv]; have hn0 : N fr := hN 0 (by simp); obtain ⟨g1, g2⟩ := h.put hn0 (.slice none 0 0) (.row e t []) w rfl (qA3 w) (fun b _ hb => by simp [blkOf] at hb)
    (fun _ => ⟨0, [], rfl, by simp only [rx]; rw [upd_same]; exact oA2 w e t.n none, rfl⟩)
   obtain ⟨σ', N', h1, h2, h3, h4, h5⟩ := nA3 zs (fr + 1) r _ _ _ g1 (fun j hj => ⟨by have := hN (j + 1) (by simp; omega); rwa [show fr + (j + 1) = fr + 1 + j by omega] at this, by omega⟩) hr; have hfr : ¬ (fun i => N i ∧ i ≠ fr) fr := fun k => k.2 rfl; refine ⟨σ', N', h1, ⟨g2.k.trans h2.k (Nat.le_refl _), fun id hid => ?_, fun id hid => (h2.N id hid).1⟩, repCs_cons.2 ⟨_, r, rfl, ?_, h3⟩, fun u hu => ?_, fun id hid hr => h5 id ⟨hid, by simp at hr; omega⟩ (by simp at hr; omega)⟩
   · exact (h2.σ id (fun k => hid k.1)).trans (g2.σ id hid)
   · unfold repC; refine ⟨fun k => hfr (h2.N fr k), ?_⟩; have := h2.σ fr hfr; simp only [rx] at this ⊢; rw [this, upd_same]
   · cases List.mem_cons.1 hu with
     | inl e => subst e; rfl
     | inr e => exact h4 u e
theorem RepM.putG (h : RepM cx σ N m w) {id : Nat} (n0 : N id) (n1 : N (id + 1)) (e e2 : TypeId) (t u : Ty) (p : Nat) :
 RepM cx (upd (upd σ (id + 1) (.func (.func 0) #[] #[])) id (.slice none 0 0)) (fun i => N i ∧ i ≠ id ∧ i ≠ id + 1) (upd (upd m (id + 1) (.fam e2 u [])) id (.rowg e t p (id + 1) [] none)) w ∧
 Rx.Keeps (rx cx σ N m w) (rx cx (upd (upd σ (id + 1) (.func (.func 0) #[] #[])) id (.slice none 0 0)) (fun i => N i ∧ i ≠ id ∧ i ≠ id + 1) (upd (upd m (id + 1) (.fam e2 u [])) id (.rowg e t p (id + 1) [] none)) w) := by
 have ne : id + 1 ≠ id := by omega
 have s1 : upd (upd σ (id + 1) (.func (.func 0) #[] #[])) id (Value.slice none 0 0) id = .slice none 0 0 := upd_same _ _ _; have s2 : upd (upd σ (id + 1) (.func (.func 0) #[] #[])) id (Value.slice none 0 0) (id + 1) = .func (.func 0) #[] #[] := by rw [iA0 _ _ ne, upd_same]
 have s3 : ∀ i, i ≠ id → i ≠ id + 1 → upd (upd σ (id + 1) (.func (.func 0) #[] #[])) id (Value.slice none 0 0) i = σ i := fun i h1 h2 => by rw [iA0 _ _ h1, iA0 _ _ h2]
 have m1 : upd (upd m (id + 1) (.fam e2 u [])) id (.rowg e t p (id + 1) [] none) id = .rowg e t p (id + 1) [] none := upd_same _ _ _; have m2 : upd (upd m (id + 1) (.fam e2 u [])) id (.rowg e t p (id + 1) [] none) (id + 1) = .fam e2 u [] := by rw [iA0 _ _ ne, upd_same]
 have m3 : ∀ i, i ≠ id → i ≠ id + 1 → upd (upd m (id + 1) (.fam e2 u [])) id (.rowg e t p (id + 1) [] none) i = m i := fun i h1 h2 => by rw [iA0 _ _ h1, iA0 _ _ h2]
 have nb : ∀ i b, i = id ∨ i = id + 1 → ¬ hb (upd (upd σ (id + 1) (.func (.func 0) #[] #[])) id (Value.slice none 0 0) i) b := fun i b hi hbb => by
  rcases hi with rfl | rfl
  · rw [s1, hb_slice] at hbb; cases hbb
  · rw [s2, hb_fam] at hbb; obtain ⟨q, hq, _⟩ := hbb; cases hq
 refine h.step (fun i => i = id ∨ i = id + 1) (fun i k => k.1) (fun i k => by rw [m3 i k.2.1 k.2.2]; exact h.fresh i k.1) (fun i k => by simp only [not_or] at k; exact ⟨m3 i k.1 k.2, s3 i k.1 k.2⟩)
  (fun i k => s3 i (fun e => k (e ▸ n0)) (fun e => k (e ▸ n1))) (fun b _ _ => rfl) ⟨Nat.le_refl _, Nat.le_refl _⟩ rfl rfl rfl (fun i b hi _ hbb => (nb i b hi hbb).elim) (fun i i' b hi _ _ _ hbb _ => (nb i b hi hbb).elim)
  (fun i hi => by
    rcases hi with rfl | rfl
    · rw [s1]; rfl
    · rw [s2]; rfl) (fun hk i hi => ?_)
 rcases hi with rfl | rfl
 · rw [m1]; exact ⟨.func 0, #[], [], fun k => k.2.2 rfl, s2, rfl, by simp only [rx]; rw [s1]; exact oA2 w e t.n none, rfl⟩
 · rw [m2]; exact ⟨.func 0, #[], s2, rfl, (fun i xs v h1 _ => by simp at h1), (fun i j u v b h1 _ _ _ => by simp at h1)⟩
theorem cA5 (e2 : TypeId) : ∀ (zs : List Z) (fr : Nat) (vs : List Value) (σ : Nat → Value) (N : Nat → Prop) (m : Mem), RepM cx σ N m w → (∀ j, j < 2 * zs.length → N (fr + j)) → zCells zs vs →
 ∃ σ' N', RepM cx σ' N' (updM m (mkZeroG e2 zs fr).2) w ∧ Rx.Keeps (rx cx σ N m w) (rx cx σ' N' (updM m (mkZeroG e2 zs fr).2) w) ∧ repCs (rx cx σ' N' (updM m (mkZeroG e2 zs fr).2) w) (mkZeroG e2 zs fr).1 vs ∧
   oneAll vs ∧ ∀ id, N id → (id < fr ∨ fr + 2 * zs.length ≤ id) → N' id
 | [], fr, vs, σ, N, m, h, _, hz => by
   rw [show vs = [] from hz]
   exact ⟨σ, N, h, ⟨Keep.refl _ _, fun _ _ => rfl, fun _ h => h⟩, repCs_nil.2 rfl, (fun _ hh => by cases hh), fun _ h _ => h⟩
 | .c c :: zs, fr, vs, σ, N, m, h, hN, hz => by
   obtain ⟨v, r, rfl, ⟨hv, hc⟩, hr⟩ := hz; obtain ⟨σ', N', h1, h2, h3, h4, h5⟩ := cA5 e2 zs fr r σ N m h (fun j hj => hN j (by simp; omega)) hr; refine ⟨σ', N', h1, h2, repCs_cons.2 ⟨v, r, rfl, ?_, h3⟩, fun u hu => ?_, fun id hid hr => h5 id hid (by simp at hr; omega)⟩
   · subst hv
     cases v with
     | int k n => unfold repC; exact ⟨rfl, hc⟩
     | bool b => unfold repC; rfl
     | string s => unfold repC; exact ⟨rfl, hc⟩
     | slice a l cp => cases a <;> simp [constC] at hc ⊢; unfold repC; rw [hc.1, hc.2]
     | pointer a => cases a <;> simp [constC] at hc ⊢; unfold repC; rfl
     | nilFunc => unfold repC; rfl
     | map a => simp [constC] at hc ⊢; unfold repC; trivial
     | _ => simp [constC] at hc
   · cases List.mem_cons.1 hu with
     | inl e =>
       subst e; subst hv
       cases u <;> simp [constC] at hc <;> first | rfl | skip
     | inr e => exact h4 u e
 | .s e t :: zs, fr, vs, σ, N, m, h, hN, hz => by
   obtain ⟨v, r, rfl, hv, hr⟩ := hz; rw [show v = .slice none 0 0 from hv]; have hn0 : N fr := hN 0 (by simp); have hn1 : N (fr + 1) := hN 1 (by simp; omega); have tail : ∀ (σ1 : Nat → Value) (N1 : Nat → Prop) (m1 : Mem), RepM cx σ1 N1 m1 w → Rx.Keeps (rx cx σ N m w) (rx cx σ1 N1 m1 w) → (∀ id, N1 id ↔ N id ∧ id ≠ fr ∧ (N1 (fr + 1) ∨ id ≠ fr + 1)) → σ1 fr = .slice none 0 0 →
    ∃ σ' N', RepM cx σ' N' (updM m1 (mkZeroG e2 zs (fr + 2)).2) w ∧ Rx.Keeps (rx cx σ N m w) (rx cx σ' N' (updM m1 (mkZeroG e2 zs (fr + 2)).2) w) ∧ repCs (rx cx σ' N' (updM m1 (mkZeroG e2 zs (fr + 2)).2) w) (.row fr :: (mkZeroG e2 zs (fr + 2)).1) (.slice none 0 0 :: r) ∧
      oneAll (.slice none 0 0 :: r) ∧ ∀ id, N id → (id < fr ∨ fr + 2 * (Z.s e t :: zs).length ≤ id) → N' id := by
    intro σ1 N1 m1 g1 g2 hN1 hs; obtain ⟨σ', N', h1, h2, h3, h4, h5⟩ := cA5 e2 zs (fr + 2) r σ1 N1 m1 g1 (fun j hj => (hN1 _).2 ⟨by have := hN (j + 2) (by simp; omega); rwa [show fr + (j + 2) = fr + 2 + j by omega] at this, by omega, .inr (by omega)⟩) hr; have hfr : ¬ N1 fr := fun k => ((hN1 _).1 k).2.1 rfl; refine ⟨σ', N', h1, ⟨g2.k.trans h2.k (Nat.le_refl _), fun id hid => ?_, fun id hid => g2.N id (h2.N id hid)⟩, repCs_cons.2 ⟨_, r, rfl, ?_, h3⟩, fun u hu => ?_, fun id hid hr => h5 id ((hN1 id).2 ⟨hid, by simp at hr; omega, .inr (by simp at hr; omega)⟩) (by simp at hr; omega)⟩
    · exact (h2.σ id (fun k => hid (g2.N id k))).trans (g2.σ id hid)
    · unfold repC; refine ⟨fun k => hfr (h2.N fr k), ?_⟩; have := h2.σ fr hfr; simp only [rx] at this ⊢; rw [this, hs]
    · cases List.mem_cons.1 hu with
      | inl e => subst e; rfl
      | inr e => exact h4 u e
   unfold mkZeroG
   cases hsl : slAt t with
   | some q =>
     obtain ⟨g1, g2⟩ := h.putG hn0 hn1 e e2 t q.2 q.1
     exact tail _ _ _ g1 g2 (fun id => ⟨fun k => ⟨k.1, k.2.1, .inr k.2.2⟩, fun k => ⟨k.1, k.2.1, k.2.2.elim (fun q => (q.2.2 rfl).elim) (fun q => q)⟩⟩) (upd_same _ _ _)
   | none =>
     obtain ⟨g1, g2⟩ := h.put hn0 (.slice none 0 0) (.row e t []) w rfl (qA3 w) (fun b _ hb => by simp [blkOf] at hb)
      (fun _ => ⟨0, [], rfl, by simp only [rx]; rw [upd_same]; exact oA2 w e t.n none, rfl⟩)
     exact tail _ _ _ g1 g2 (fun id => ⟨fun k => ⟨k.1, k.2, .inl ⟨hn1, by omega⟩⟩, fun k => ⟨k.1, k.2.1⟩⟩) (upd_same _ _ _)
theorem wA0 {t : TypeId} {i : TypeInfo} {z : Value} (hi : P.info? t = some i) (hz : i.zero = some z) : (zeroValue t).run P w = .ok z w := by
 simp [zeroValue, typeInfo, hi, hz]
theorem vA3 {σ0 : Nat → Value} {N0 : Nat → Prop} {m0 : Mem} (hk : Rx.Keeps (rx cx σ0 N0 m0 w) (rx cx σ N m w)) (h : RepM cx σ N m w) (hfr : N fr) (hsub : ∀ id, N0 id → ¬ (fr ≤ id ∧ id < fr + 32) → N id)
 {e : TypeId} {cs : List C1} {vs : List Value} (hcs : repCs (rx cx σ N m w) cs vs) (h1 : oneAll vs) {u0 : Heap} (hm : m = updM m0 u0) :
 Res cx σ0 N0 m0 w fr ⟨True, .one (.loc fr 0), u0 ++ [(fr, .cells e cs)], True⟩ (.pointer (some ⟨w.heap.size, 0, none⟩)) (w.alloc (.cells vs.toArray e)) := by
 obtain ⟨g1, g2⟩ := h.put hfr (.pointer (some ⟨w.heap.size, 0, none⟩)) (.cells e cs) (w.alloc (.cells vs.toArray e)) rfl (oA1 w _) (fun b _ hb => by simp [blkOf] at hb; omega)
  (fun hk => ⟨w.heap.size, vs, by simp only [rx]; rw [upd_same], heap_alloc_new w _, sA0 hk cs vs hcs, h1⟩)
 have hw : ∀ id, Nx N0 fr id → (N id ∧ id ≠ fr) := fun id hid => ⟨hsub id hid.1 hid.2, fun e => hid.2 ⟨by omega, by omega⟩⟩; obtain ⟨g3, g4⟩ := g1.weaken hw; have hmm : updM m0 (u0 ++ [(fr, Blk.cells e cs)]) = upd m fr (.cells e cs) := by
  rw [yA0, ← hm]; rfl
 refine ⟨upd σ fr (.pointer (some ⟨w.heap.size, 0, none⟩)), ?_, ?_, ?_, trivial⟩ <;> simp only [hmm]
 · exact g3
 · exact ⟨(hk.k.trans g2.k (Nat.le_refl _)).trans g4.k (by simp [rx]), fun id hid => by
    have hid' : ¬ N id := fun k => hid (hk.N id k); rw [g4.σ id (fun k => hid' k.1), g2.σ id hid']; exact hk.σ id hid, fun id hid => hid.1⟩
 · unfold repA repC; exact ⟨fun k => k.2 ⟨by omega, by omega⟩, w.heap.size, by simp only [rx]; rw [upd_same], rfl⟩
theorem zB2 {w : World} {O : Nat → Prop} : ∀ (t : Ty) (vs : List Value), zTy t vs → ro w O t t.dflt vs
 | .int k, vs, h => ⟨h, by unfold InR IntKind.min IntKind.max; cases k <;> simp [IntKind.signed, IntKind.bits, Ty.dflt]⟩
 | .bool, vs, h => h
 | .str, vs, h => ⟨h, by simp [Ty.dflt, maxLen]⟩
 | .unit, vs, h => h
 | .sl t, vs, h => ⟨none, 0, 0, h, rfl, Nat.le_refl _, by simp [maxLen], .inl rfl⟩
 | .pair a b, vs, ⟨x, y, e, h1, h2⟩ => ⟨x, y, e, zB2 a x h1, zB2 b y h2⟩
theorem lB2 {w : World} {O : Nat → Prop} {u : Ty} : ∀ (n : Nat) (vs : List Value), zTyN u n vs → roAll (ro w O u) (List.replicate n u.dflt) vs
 | 0, _, h => h
 | n + 1, _, ⟨x, y, e, h1, h2⟩ => ⟨x, y, e, zB2 u x h1, lB2 n y h2⟩
theorem rB5 (h : RepM cx σ N m w) (hfr : ∀ id, fr ≤ id → id < fr + 32 → N id) {t : TypeId} (ho : o.op = .alloc t) (ht : TabOK P T) {n : Nat} {e : TypeId} {u : Ty} (hd : (TI.of T t).desc = .array n e u) :
 Runs P w (Res cx σ N m w fr ⟨True, .one (.ep fr u.n 0 0), [(fr, .row t u (List.replicate n u.dflt))], True⟩) ((execOp ρ o).run P w) := by
 have htt := TI.of_ok ht t (fun e => by rw [e] at hd; cases hd); obtain ⟨hu, hn0, hnm, hun, i, z, hi, hz, hzt⟩ := htt.arr n e u hd; have hrun : (execOp ρ o).run P w = .ok (.value (.pointer (some ⟨w.heap.size, 0, none⟩))) (w.alloc (.cells z.cells.toList.toArray t)) := by
  simp [execOp, ho, Instr.alloc, wA0 hi hz, newVar, newRow]
 have hlen : z.cells.toList.length = n * u.n := by
  have := nA0 (fun x c => qA0 u x c) _ _ (lB2 (w := w) (O := fun _ => False) n _ hzt)
  rwa [List.length_replicate] at this
 obtain ⟨g1, g2⟩ := h.put (hfr fr (by omega) (by omega)) (.slice (some ⟨w.heap.size, 0, none⟩) n n) (.row t u (List.replicate n u.dflt)) (w.alloc (.cells z.cells.toList.toArray t)) rfl (oA1 w _) (fun b _ hb => by rw [gA0 hn0] at hb; simp at hb; omega)
  (fun hk => ⟨n, z.cells.toList, by simp, by
    simp only [rx]; rw [upd_same]; exact bA4 hlen (heap_alloc_new w _) (Nat.le_refl _) hnm (by simp only [List.size_toArray]; exact hlen) (by rw [List.take_of_length_le (by simp only; omega)]), lB2 n _ hzt⟩)
 obtain ⟨g3, g4⟩ := g1.weaken (N' := Nx N fr) (fun id hid => ⟨hid.1, fun e => hid.2 ⟨by omega, by omega⟩⟩); refine bA0 hrun ⟨_, g3, ⟨g2.k.trans g4.k (by simp [rx]), fun id hid => g2.σ id hid, fun id hid => hid.1⟩, ?_, trivial⟩; unfold repA repC; exact ⟨fun k => k.2 ⟨by omega, by omega⟩, w.heap.size, n, n, by simp only [rx]; rw [upd_same], by simp⟩
theorem pA7 (h : RepM cx σ N m w) (hfr : ∀ id, fr ≤ id → id < fr + 32 → N id) {t : TypeId} (ho : o.op = .alloc t) (ht : TabOK P T)
 (hp : (if (TI.of T t).zero = [] ∨ 31 < (TI.of T t).zero.length then bad else (⟨True, .one (.loc fr 0), (mkZero (TI.of T t).zero (fr + 1)).2 ++ [(fr, .cells t (mkZero (TI.of T t).zero (fr + 1)).1)], True⟩ : Eff)).pre) :
 Runs P w (Res cx σ N m w fr (if (TI.of T t).zero = [] ∨ 31 < (TI.of T t).zero.length then bad else (⟨True, .one (.loc fr 0), (mkZero (TI.of T t).zero (fr + 1)).2 ++ [(fr, .cells t (mkZero (TI.of T t).zero (fr + 1)).1)], True⟩ : Eff))) ((execOp ρ o).run P w) := by
 split at hp
 · exact hp.elim
 · rename_i hz; rw [if_neg hz]; simp only [not_or] at hz; have hne : TI.of T t ≠ TI.none := fun e => hz.1 (by rw [e]; rfl); have htt := TI.of_ok ht t hne; obtain ⟨i, hi, hs, hby, z, hzz, hzs, hzc⟩ := htt.info; obtain ⟨σ', N', h1, h2, h3, h4, h5⟩ := nA3 (TI.of T t).zero (fr + 1) z.cells.toList σ N m h (fun j hj => hfr _ (by omega) (by omega)) (hzc hz.1); have hrun : (execOp ρ o).run P w = .ok (.value (.pointer (some ⟨w.heap.size, 0, none⟩))) (w.alloc (.cells z.cells.toList.toArray t)) := by
    simp [execOp, ho, Instr.alloc, wA0 hi hzz, newVar, newRow]
   refine bA0 hrun (vA3 h2 h1 (h5 fr (hfr fr (by omega) (by omega)) (.inl (by omega))) (fun id hid hx => h5 id hid (by omega)) h3 h4 rfl)
theorem pC1 (h : RepM cx σ N m w) (hfr : ∀ id, fr ≤ id → id < fr + 32 → N id) {t e2 : TypeId} (ho : o.op = .alloc t) (ht : TabOK P T)
 (hp : (allocGS e2 fr t (TI.of T t).zero).pre) : Runs P w (Res cx σ N m w fr (allocGS e2 fr t (TI.of T t).zero)) ((execOp ρ o).run P w) := by
 unfold allocGS at hp ⊢; split at hp
 · exact hp.elim
 · rename_i hz; rw [if_neg hz]; simp only [not_or] at hz; have hne : TI.of T t ≠ TI.none := fun e => hz.1 (by rw [e]; rfl); have htt := TI.of_ok ht t hne; obtain ⟨i, hi, hs, hby, z, hzz, hzs, hzc⟩ := htt.info; obtain ⟨σ', N', h1, h2, h3, h4, h5⟩ := cA5 e2 (TI.of T t).zero (fr + 1) z.cells.toList σ N m h (fun j hj => hfr _ (by omega) (by omega)) (hzc hz.1); have hrun : (execOp ρ o).run P w = .ok (.value (.pointer (some ⟨w.heap.size, 0, none⟩))) (w.alloc (.cells z.cells.toList.toArray t)) := by
    simp [execOp, ho, Instr.alloc, wA0 hi hzz, newVar, newRow]
   refine bA0 hrun (vA3 h2 h1 (h5 fr (hfr fr (by omega) (by omega)) (.inl (by omega))) (fun id hid hx => h5 id hid (by omega)) h3 h4 rfl)
theorem lC8 {ti : TI} (h : isU ti = true) : ti ≠ TI.none := fun e => by rw [e] at h; simp [isU, isUD, TI.none] at h
theorem nC6 {ti : TI} (h : isU ti = true) : ti.size = 0 := by
 simp only [isU, Bool.and_eq_true, decide_eq_true_eq] at h; exact h.2
theorem cB7 {ti : TI} (h : isU ti = true) : ti.desc = .struct [] := by
 simp only [isU, Bool.and_eq_true, decide_eq_true_eq] at h
 cases hd : ti.desc with
 | struct fs =>
   rw [hd] at h
   cases fs with
   | nil => rfl
   | cons a l => simp [isUD, isUL] at h
 | _ => rw [hd] at h; simp [isUD] at h
theorem cA7 {t : TypeId} (ht : TabOK P T) (h : isU (TI.of T t) = true) : ∃ i, P.info? t = some i ∧ i.size = 0 ∧ i.zero = some (.agg #[]) := by
 have htt := TI.of_ok ht t (lC8 h); obtain ⟨i, hi, hs, hby, z, hzz, hzs, hzc⟩ := htt.info; have h0 := nC6 h; refine ⟨i, hi, by omega, ?_⟩; rw [hzz]; have : z.cells.size = 0 := by omega
 cases z <;> simp [Value.cells] at this
 subst this; rfl
theorem nA6 (h : RepM cx σ N m w) (hfr : ∀ id, fr ≤ id → id < fr + 32 → N id) {t : TypeId} (ho : o.op = .alloc t) (ht : TabOK P T) (hU : isU (TI.of T t) = true) :
 Runs P w (Res cx σ N m w fr ⟨True, .one (.loc fr 0), [(fr, .cells t [])], True⟩) ((execOp ρ o).run P w) := by
 obtain ⟨i, hi, hs, hz⟩ := cA7 ht hU; have hrun : (execOp ρ o).run P w = .ok (.value (.pointer (some ⟨w.heap.size, 0, none⟩))) (w.alloc (.cells (#[] : Array Value).toList.toArray t)) := by
  simp [execOp, ho, Instr.alloc, wA0 hi hz, newVar, newRow, Value.cells]
 exact bA0 hrun (vA3 (u0 := []) (cs := []) ⟨Keep.refl _ _, fun _ _ => rfl, fun _ k => k⟩ h (hfr fr (by omega) (by omega)) (fun id hid _ => hid) (repCs_nil.2 rfl) (fun _ k => by cases k) rfl)
theorem rD1 (h : RepM cx σ N m w) (hfr : ∀ id, fr ≤ id → id < fr + 32 → N id) {t : TypeId} (h8 : ¬ 8 ≤ wfOf G o.dst) (ho : o.op = .alloc t) (ht : TabOK P T)
 (hp : (opEff T G o [] m fr).pre) : Runs P w (Res cx σ N m w fr (opEff T G o [] m fr)) ((execOp ρ o).run P w) := by
 simp only [opEff, ho] at hp ⊢; by_cases hU : isU (TI.of T t) = true
 · rw [if_pos hU]; exact nA6 h hfr ho ht hU
 rw [if_neg hU] at hp ⊢; split at hp
 · rename_i n e u hd; rw [if_neg h8] at hp ⊢; by_cases h2 : wfOf G o.dst = 2
   · rw [if_pos h2] at hp ⊢; unfold allocZ at hp ⊢; exact pA7 h hfr ho ht hp
   · rw [if_neg h2]; exact rB5 h hfr ho ht hd
 · rename_i hnd; rw [if_neg h8] at hp ⊢; exact pA7 h hfr ho ht hp
theorem mA2 {x : Rx} (hσ : ∀ id, (x.σ id).oneCell' = true) : ∀ (cs : List C1) (vs : List Value), cs.all known = true → repCs x cs vs → oneAll vs
 | [], _, _, h => by rw [repCs_nil.1 h]; intro u hu; cases hu
 | c :: cs, _, hk, h => by
   obtain ⟨v, r, rfl, h1, h2⟩ := repCs_cons.1 h; simp at hk; intro u hu
   cases List.mem_cons.1 hu with
   | inl e => rw [e]; exact zB6 hk.1 h1 (fun id _ => hσ id)
   | inr e => exact mA2 hσ cs r (by simpa using hk.2) h2 u e
theorem fA3 {x : Rx} (hσ : ∀ id, (x.σ id).oneCell' = true) {a : AV} {v : Value} (h : repA x a v) (hk : a.cells.all known = true) (hne : a.cells ≠ []) : repCs x a.cells v.cells.toList := by
 cases a with
 | one c =>
   unfold repA at h; simp only [AV.cells] at *; simp at hk; have := zB6 hk h (fun id _ => hσ id); have e : v.cells = #[v] := by cases v <;> first | rfl | (simp [Value.oneCell'] at this)
   rw [e]
   exact repCs_cons.2 ⟨v, [], rfl, h, repCs_nil.2 rfl⟩
 | agg cs =>
   unfold repA at h; obtain ⟨vs, rfl, h1⟩ := h
   exact h1
 | tup _ => exact absurd rfl hne
 | ifd _ _ => exact absurd rfl hne
theorem fD5 (h : RepM cx σ N m w) (hfr : ∀ id, fr ≤ id → id < fr + 32 → N id) {t : TypeId} {x : Operand} (ho : o.op = .box t x) (hx : repA (rx cx σ N m w) (av x) (ρ x))
 (hp : (opEff T G o [av x] m fr).pre) : Runs P w (Res cx σ N m w fr (opEff T G o [av x] m fr)) ((execOp ρ o).run P w) := by
 simp only [opEff, ho] at hp ⊢; split at hp
 · rename_i hle
   · rw [if_pos hle]; have hne : (av x).cells ≠ [] := fun e => by rw [e] at hle; simp at hle; omega
     have hcs := fA3 (x := rx cx σ N m w) h.hone hx hle.2.2 hne; have hrun : (execOp ρ o).run P w = .ok (.value (.pointer (some ⟨w.heap.size, 0, none⟩))) (w.alloc (.cells (ρ x).cells.toList.toArray t)) := by
      simp [execOp, ho, Instr.box, newVar, newRow]
     refine bA0 hrun (vA3 (u0 := []) ⟨Keep.refl _ _, fun _ _ => rfl, fun _ h => h⟩ h (hfr fr (by omega) (by omega)) (fun id hid _ => hid) hcs (mA2 h.hone _ _ hle.2.2 hcs) rfl)
 · exact hp.elim
theorem RepM.write (h : RepM cx σ N m w) {id : Nat} (hid : ¬ N id) (B : Blk) {b : Nat} (hσ : blkOf (σ id) = some b) (ho : own (m id) = true) {w' : World}
 (hw : ∀ k, k ≠ b → w'.heap[k]? = w.heap[k]?) (hsz : w.heap.size ≤ w'.heap.size ∧ w.drawn ≤ w'.drawn) (hos : w'.os = w.os) (htape : w'.tape = w.tape) (hout : w'.output = w.output)
 (hrep : Rx.Keeps (rx cx σ N m w) (rx cx σ N (upd m id B) w') → repB (rx cx σ N (upd m id B) w') id B) :
 RepM cx σ N (upd m id B) w' ∧ Rx.Keeps (rx cx σ N m w) (rx cx σ N (upd m id B) w') := by
 refine h.step (fun i => i = id) (fun _ k => k) (fun i hi => by rw [iA0 _ _ (fun e => hid (by rw [← e]; exact hi))]; exact h.fresh i hi) (fun i hi => ⟨iA0 _ _ hi, rfl⟩) (fun _ _ => rfl)
  (fun k hk hx => hw k (fun e => hx id rfl ho (e ▸ .inl hσ))) hsz hos htape hout (fun i b' hi ho' hb' => ?_) (fun i i' b hi hi' _ _ _ _ => hi.trans hi'.symm) (fun i _ => h.hone i) (fun hk i hi => ?_)
 · subst hi; exact .inr ⟨i, rfl, ho, hb'⟩
 · subst hi; rw [upd_same]; exact hrep hk
theorem zA1 {t : TypeId} {i : TypeInfo} (hi : P.info? t = some i) {b off : Nat} {e : TypeId} {cur : Array Value} (hb : w.heap[b]? = some (.cells cur e (0, 0))) {v : Value} (hl : v.cells.size = i.size)
 (h1 : oneAll v.cells.toList) (hfit : off + i.size ≤ cur.size) :
 (storeVar t ⟨b, off, none⟩ v).run P w = .ok () (w.setRow b (cur.toList.take off ++ v.cells.toList ++ cur.toList.drop (off + v.cells.toList.length)).toArray) := by
 have hst := run_storeCells_at P b off e v.cells.toList 0 cur w hb (by simp; omega) h1; simp only [Nat.add_zero] at hst; simp [storeVar, tA0 hi, hl, hst]
theorem gA7 {α : Type} (pre c post v : List α) (off : Nat) (h : off + v.length ≤ c.length) :
 (pre ++ (c ++ post)).take (pre.length + off) ++ v ++ (pre ++ (c ++ post)).drop (pre.length + off + v.length) = pre ++ ((c.take off ++ v ++ c.drop (off + v.length)) ++ post) := by
 have e1 : (pre ++ (c ++ post)).take (pre.length + off) = pre ++ c.take off := by
  rw [List.take_append, List.take_of_length_le (by omega), Nat.add_sub_cancel_left, List.take_append_of_le_length (by omega)]
 have e2 : (pre ++ (c ++ post)).drop (pre.length + off + v.length) = c.drop (off + v.length) ++ post := by
  rw [List.drop_append, List.drop_of_length_le (by omega), List.nil_append, show pre.length + off + v.length - pre.length = off + v.length by omega, List.drop_append_of_le_length (by omega)]
 rw [e1, e2]; simp
theorem nA4 {α : Type} {r : α → List Value → Prop} {xs : List α} {i : Nat} (hi : i < xs.length) {pre c post : List Value} {x : α} (h1 : roAll r (xs.take i) pre) (h2 : r x c) (h3 : roAll r (xs.drop (i + 1)) post) :
 roAll r (xs.set i x) (pre ++ (c ++ post)) := by
 have e : xs.set i x = xs.take i ++ (x :: xs.drop (i + 1)) := by
  rw [List.set_eq_take_append_cons_drop, if_pos hi]
 rw [e]; exact nA1 _ _ _ _ h1 ⟨c, post, rfl, h2, h3⟩
theorem wB9 (h : RepM cx σ N m w) {t : TypeId} {x y : Operand} (ho : o.op = .store t x y) (ht : TabOK P T) {c : C1} {a : AV} (hx : repC (rx cx σ N m w) c (ρ x)) (hy : repA (rx cx σ N m w) a (ρ y))
 (hp : (storeE m (TI.of T t) a c).pre) : Runs P w (Res cx σ N m w fr (storeE m (TI.of T t) a c)) ((execOp ρ o).run P w) := by
 unfold storeE at hp ⊢; split at hp
 · rename_i id off; split at hp
   · rename_i e cs hm; split at hp
     · rename_i hle; simp only [hle, and_self, if_true]; obtain ⟨hpos, hl, hfit, hk⟩ := hle; have hne : a.cells ≠ [] := fun e => by rw [e] at hl; simp at hl; omega
       have htt := TI.of_ok ht t (wA6 (by omega)); obtain ⟨i, hi, hs, _⟩ := htt.info; unfold repC at hx; obtain ⟨hn, b, e1, e2⟩ := hx; simp only [rx] at e1 hn; have hb := h.blk id; rw [hm] at hb; obtain ⟨b', vs, e3, e4, hcs, h1⟩ := hb; simp only [rx] at e3 e4; rw [e1] at e3; simp at e3; subst e3; have hac := fA3 (x := rx cx σ N m w) h.hone hy hk hne; have hal := jA0 _ _ hac; have hvl := jA0 _ _ hcs; have h1a := mA2 h.hone _ _ hk hac; have hrun : (execOp ρ o).run P w = .ok .skip (w.setRow b (vs.take off ++ (ρ y).cells.toList ++ vs.drop (off + (ρ y).cells.toList.length)).toArray) := by
        have := zA1 (P := P) (w := w) (t := t) hi (off := off) e4 (v := ρ y) (by rw [← Array.length_toList, hal, hl, hs]) h1a (by simp; omega); simp [execOp, ho, Instr.storeAt, Instr.sureAddr, e2, this]
       obtain ⟨g1, g2⟩ := h.write hn (.cells e (overC cs off a.cells)) (b := b) (by rw [e1]; rfl) (by rw [hm]; rfl) (w' := w.setRow b (vs.take off ++ (ρ y).cells.toList ++ vs.drop (off + (ρ y).cells.toList.length)).toArray)
        (fun k hk => setRow_other w b k _ hk) ⟨by simp, Nat.le_refl _⟩ rfl rfl rfl (fun hkk => ⟨b, _, e1, setRow_heap w b vs.toArray _ e (0, 0) e4, sA0 hkk _ _ (lA3 hcs hac), fun u hu => by
          simp only [List.mem_append] at hu
          rcases hu with (hu | hu) | hu
          · exact h1 u (List.mem_of_mem_take hu)
          · exact h1a u hu
          · exact h1 u (List.mem_of_mem_drop hu)⟩)
       obtain ⟨g3, g4⟩ := g1.weaken (N' := Nx N fr) (fun _ k => k.1); exact lA2 hrun ⟨σ, g3, ⟨g2.k.trans g4.k (by simp [rx]), fun _ _ => rfl, fun _ k => k.1⟩, by unfold repA repC; trivial, trivial⟩
     · exact hp.elim
   · exact hp.elim
 · rename_i id sz i off; split at hp
   · rename_i e u xs hm; split at hp
     · rename_i hle; obtain ⟨hpos, hl, hfit, rfl, hnc, hka⟩ := hle; split at hp
       · rename_i y' him; simp only [hpos, hl, hfit, hnc, hka, and_self, if_true]; obtain ⟨hi0, hi1⟩ := hp; have hi : i.toNat < xs.length := by omega
         have htt := TI.of_ok ht t (wA6 (by omega)); obtain ⟨ii, hii, hs, _⟩ := htt.info; obtain ⟨q1, q2⟩ := h.settles (rowsOf a.cells); have himp := cA2 m (rowsOf a.cells) u (overC (expl u (xs.getD i.toNat u.dflt)) off a.cells); rw [him] at himp; have hmem : id ∉ rowsOf a.cells := by simpa using hnc
         have hmid : updM m ((rowsOf a.cells).map (settle m)) id = .row e u xs := by
          rw [zA0 m (rowsOf a.cells) m id (fun _ _ => .inl rfl), if_neg hmem, hm]
         have hrx : ∀ j ∈ rowsOf (overC (expl u (xs.getD i.toNat u.dflt)) off a.cells), j ∈ rowsOf a.cells := by
          intro j hj; unfold overC at hj; rw [kA0, kA0, List.mem_append, List.mem_append] at hj; have hex : ∀ (t : Ty) (y : t.den), rowsOf (expl t y) = [] := by
           intro t
           induction t with
           | pair a b iha ihb => intro y; simp [expl, kA0, iha, ihb]
           | _ => intro y; rfl
          rcases hj with (hj | hj) | hj
          · have := xA1 hj; rw [hex] at this; cases this
          · exact hj
          · have := wA1 hj; rw [hex] at this; cases this
         have hno := aA3 (m := m) (ids := rowsOf a.cells) him hrx; unfold repC at hx; obtain ⟨hn, b, n, cp, e1, e2⟩ := hx; simp only [rx] at e1 hn; have hne : a.cells ≠ [] := fun e => by rw [e] at hl; simp at hl; omega
         have hac := fA3 (x := rx cx σ N (updM m ((rowsOf a.cells).map (settle m))) w) q1.hone (pA0 q2 _ _ hy) hka hne; have hal := jA0 _ _ hac; have h1a := mA2 q1.hone _ _ hka hac; generalize hM : updM m ((rowsOf a.cells).map (settle m)) = M at *; have hb := q1.blk id; rw [hmid] at hb; obtain ⟨n', flat, rfl, k, k1⟩ := hb; simp only [rx] at k k1; obtain ⟨pre, vs, post, he, hpl, hr, hpre, hpost⟩ := sA2 (fun x c => qA0 u x c) k1 hi; rw [← pA4 xs i.toNat u.dflt hi] at hr; have hvl := qA0 u _ vs hr; have hnew := rA2 q1 u _ y' (vs.take off ++ (ρ y).cells.toList ++ vs.drop (off + (ρ y).cells.toList.length)) himp (lA3 (vA0 (x := rx cx σ N M w) u _ vs hr) hac) hno; have hlen : (vs.take off ++ (ρ y).cells.toList ++ vs.drop (off + (ρ y).cells.toList.length)).length = vs.length := by
          simp only [List.length_append, List.length_take, List.length_drop]; omega
         rcases k.2 with ⟨e4, _⟩ | ⟨g, cap, cur, hz, e3, hg, hlc, hcm, hcs, htake⟩
         · omega
         · rw [e1] at e3; obtain ⟨rfl, rfl, rfl⟩ : b = g ∧ n = xs.length ∧ cp = cap := by simpa using e3
           have hcur : cur.toList = pre ++ (vs ++ (post ++ cur.toList.drop (xs.length * u.n))) := by
            conv => lhs; rw [← List.take_append_drop (xs.length * u.n) cur.toList, htake, he]
            simp
           have hcz : cur.size = cur.toList.length := by simp
           have hcl : cur.toList.length = pre.length + (vs.length + (post.length + (cur.toList.drop (xs.length * u.n)).length)) := by
            conv => lhs; rw [hcur]
            simp only [List.length_append]
           have hov := gA7 pre vs (post ++ cur.toList.drop (xs.length * u.n)) (ρ y).cells.toList off (by omega); rw [← hcur] at hov; have hst := zA1 (P := P) (w := w) (t := t) hii (off := pre.length + off) hg (v := ρ y) (by rw [← Array.length_toList, hal, hl, hs]) h1a (by omega); rw [hov] at hst; generalize vs.take off ++ (ρ y).cells.toList ++ vs.drop (off + (ρ y).cells.toList.length) = nc at *; have hrun : (execOp ρ o).run P w = .ok .skip (w.setRow b (pre ++ (nc ++ (post ++ cur.toList.drop (xs.length * u.n)))).toArray) := by
            rw [← hpl] at e2; simp only [execOp, ho, Instr.storeAt, Instr.sureAddr, e2, Sem.run_bind, Sem.run_pure, Result.andThen_ok, hst]
           obtain ⟨g1, g2⟩ := q1.write hn (.row e u (xs.set i.toNat y')) (b := b) (by rw [e1]; exact gA0 hz) (by rw [hmid]; rfl) (w' := w.setRow b (pre ++ (nc ++ (post ++ cur.toList.drop (xs.length * u.n)))).toArray)
            (fun k hk => setRow_other w b k _ hk) ⟨by simp, Nat.le_refl _⟩ rfl rfl rfl (fun hkk => by
              have hfl0 : flat.length = xs.length * u.n := k.1; have hfl : (pre ++ (nc ++ post)).length = xs.length * u.n := by
               rw [he] at hfl0; simp only [List.length_append] at hfl0 ⊢; omega
              refine ⟨xs.length, pre ++ (nc ++ post), by simp, ⟨hfl, .inr ⟨b, cp, _, hz, e1, setRow_heap w b cur _ e (0, 0) hg, hlc, hcm, ?_, ?_⟩⟩, ?_⟩
              · rw [List.size_toArray, ← hcs, hcz, hcl]; simp only [List.length_append]; omega
              · generalize cur.toList.drop (xs.length * u.n) = rest; rw [← hfl]; have : pre ++ (nc ++ (post ++ rest)) = (pre ++ (nc ++ post)) ++ rest := by simp
                rw [this]; exact List.take_left
              · exact nA4 hi (fA0 (hA0 hkk.k u) _ _ hpre) (hA0 hkk.k u _ _ hnew) (fA0 (hA0 hkk.k u) _ _ hpost))
           obtain ⟨g3, g4⟩ := g1.weaken (N' := Nx N fr) (fun _ k => k.1); have hmm : updM m ((rowsOf a.cells).map (settle m) ++ [(id, Blk.row e u (xs.set i.toNat y'))]) = upd M id (Blk.row e u (xs.set i.toNat y')) := by
            rw [yA0, hM]; rfl
           refine lA2 hrun ⟨σ, ?_, ?_, ?_, trivial⟩ <;> simp only [hmm]
           · exact g3
           · exact ⟨(q2.k.trans g2.k (Nat.le_refl _)).trans g4.k (by simp [rx]), fun _ _ => rfl, fun _ k => k.1⟩
           · unfold repA repC; trivial
       · exact hp.elim
     · exact hp.elim
   · exact hp.elim
 · exact hp.elim
theorem lC9 (h : RepM cx σ N m w) {id : Nat} {e : TypeId} {u : Ty} {xs : List u.den} (hn : ¬ N id) (hm : m id = .row e u xs) {off : Nat} {us : List Value} (h1 : oneAll us) (hpos : 0 < us.length) {xs' : List u.den} (hl : xs'.length = xs.length)
 (hfl : ∀ flat, roAll (ro w (Owned cx σ m) u) xs flat → off + us.length ≤ flat.length ∧ roAll (ro w (Owned cx σ m) u) xs' (flat.take off ++ us ++ flat.drop (off + us.length))) :
 ∃ g cap w', σ id = .slice (some ⟨g, 0, none⟩) xs.length cap ∧ xs.length ≤ cap ∧ (storeCells ⟨g, off, none⟩ us).run P w = .ok () w' ∧ w.heap.size ≤ w'.heap.size ∧
   RepM cx σ N (upd m id (.row e u xs')) w' ∧ Rx.Keeps (rx cx σ N m w) (rx cx σ N (upd m id (.row e u xs')) w') := by
 have hb := h.blk id; rw [hm] at hb; obtain ⟨n', flat, rfl, k, k1⟩ := hb; simp only [rx] at k k1; obtain ⟨hfit, hnew⟩ := hfl flat k1
 rcases k.2 with ⟨e4, _⟩ | ⟨g, cap, cur, hz, e3, hg, hlc, hcm, hcs, htake⟩
 · have := k.1; rw [e4, Nat.zero_mul] at this; omega
 · have hfl0 : flat.length = xs.length * u.n := k.1; have hcur : cur.toList = flat ++ cur.toList.drop (xs.length * u.n) := by
    conv => lhs; rw [← List.take_append_drop (xs.length * u.n) cur.toList, htake]
   have hcz : cur.size = cur.toList.length := by simp
   have hcl : cur.toList.length = flat.length + (cur.toList.drop (xs.length * u.n)).length := by
    conv => lhs; rw [hcur]
    simp only [List.length_append]
   generalize cur.toList.drop (xs.length * u.n) = rest at *; have hst := run_storeCells_at P g off e us 0 cur w hg (by omega) h1; simp only [Nat.add_zero] at hst; have hnc : cur.toList.take off ++ us ++ cur.toList.drop (off + us.length) = (flat.take off ++ us ++ flat.drop (off + us.length)) ++ rest := by
    rw [hcur, List.take_append_of_le_length (by omega), List.drop_append_of_le_length (by omega)]; simp
   rw [hnc] at hst; have hlen : (flat.take off ++ us ++ flat.drop (off + us.length)).length = flat.length := by
    simp only [List.length_append, List.length_take, List.length_drop]; omega
   generalize flat.take off ++ us ++ flat.drop (off + us.length) = nf at *; obtain ⟨g1, g2⟩ := h.write hn (.row e u xs') (b := g) (by rw [e3]; exact gA0 hz) (by rw [hm]; rfl) (w' := w.setRow g (nf ++ rest).toArray)
    (fun k hk => setRow_other w g k _ hk) ⟨by simp, Nat.le_refl _⟩ rfl rfl rfl (fun hkk => ⟨xs'.length, nf, rfl, ⟨by rw [hl]; omega, .inr ⟨g, cap, _, hz, by rw [hl]; exact e3, setRow_heap w g cur _ e (0, 0) hg, by omega, hcm, by
      rw [List.size_toArray, ← hcs, hcz, hcl, List.length_append]; omega, by
      rw [hl, ← hfl0, ← hlen]; exact List.take_left⟩⟩, fA0 (hA0 hkk.k u) _ _ hnew⟩)
   exact ⟨g, cap, _, e3, hlc, hst, by simp, g1, g2⟩
end
end Go.Ev

namespace Go.Ev
section
variable {cx : Cx} {σ : Nat → Value} {N : Nat → Prop} {m : Mem} {w : World} {P : Program} {T : Tab} {G : Env} {o : Oper} {fr : Nat} {ρ : Operand → Value} {av : Operand → AV}
theorem rC0 {ti : TI} {v : AV} {c : C1} (hg : ∀ id sz i off, c = .ep id sz i off → isG (m id) = false) (hq : ∀ fid i sz k off, c ≠ .nep fid i sz k off) : storeX m ti fr v c = storeE m ti v c := by
 unfold storeX; split
 · rename_i fid i sz k off; exact absurd rfl (hq fid i sz k off)
 · rename_i id sz i off; rw [if_neg (by rw [hg id sz i off rfl]; simp)]
 · rfl
theorem oC8 (h : RepM cx σ N m w) {t : TypeId} {x y : Operand} (hU : ¬ isU (TI.of T t) = true) (hg : ∀ id sz i off, av x = .one (.ep id sz i off) → isG (m id) = false) (hq : ∀ fid i sz k off, av x ≠ .one (.nep fid i sz k off)) (ho : o.op = .store t x y) (ht : TabOK P T) (hx : repA (rx cx σ N m w) (av x) (ρ x)) (hy : repA (rx cx σ N m w) (av y) (ρ y))
 (hp : (opEff T G o [av x, av y] m fr).pre) : Runs P w (Res cx σ N m w fr (opEff T G o [av x, av y] m fr)) ((execOp ρ o).run P w) := by
 simp only [opEff, ho, if_neg hU] at hp ⊢; split at hp <;> rename_i heq
 · rename_i c a; simp at heq; rw [heq.1] at hx; rw [heq.2] at hy; unfold repA at hx; rw [rC0 (fun id sz i off e => hg id sz i off (by rw [heq.1, e])) (fun fid i sz k off e => hq fid i sz k off (by rw [heq.1, e]))] at hp ⊢; exact wB9 h ho ht hx hy hp
 · exact hp.elim
theorem oA4 {t e : TypeId} (h : P.underlying t = some (.slice e)) : P.elem t = e := by
 simp [Program.elem, h]
theorem bB0 {t : TypeId} {ti : TI} {fs : List (Nat × Nat × Bool)} (ht : TIok P t ti) (hd : ti.desc = .struct fs) {f : Nat} {off sz : Nat} {ag : Bool} (hf : fs[f]? = some (off, sz, ag)) :
 ∃ (flds : Array Field) (fd : Field) (i : TypeInfo) (d : TypeDesc), P.underlying t = some (.struct flds) ∧ flds[f]? = some fd ∧ fd.offset = off ∧ P.info? fd.type = some i ∧ i.size = sz ∧ P.underlying fd.type = some d ∧ aggB d = ag ∧
   off + sz ≤ ti.size ∧ (ag = false → sz = 1) := by
 obtain ⟨flds, hu, rfl, hall, hone⟩ := ht.struct fs hd; rw [List.getElem?_map] at hf
 cases hq : flds.toList[f]? with
 | none => rw [hq] at hf; cases hf
 | some fd =>
   rw [hq] at hf; simp at hf; have hq' : flds[f]? = some fd := by simpa using hq
   obtain ⟨i, d, hi, hdd⟩ := hall fd (Array.mem_of_getElem? hq'); have hs : i.size = sizeB P fd.type := by simp [sizeB, hi]
   have hg : aggB d = isAggB P fd.type := by simp [isAggB, hdd]
   obtain ⟨ho1, ho2⟩ := hone fd (Array.mem_of_getElem? hq'); refine ⟨flds, fd, i, d, hu, hq', hf.1, hi, hs.trans hf.2.1, hdd, hg.trans hf.2.2, by rw [← hf.1, ← hf.2.1]; exact ho1, fun e => by rw [← hf.2.1]; exact ho2 (hf.2.2.trans e)⟩
theorem dB6 {s : TypeId} {flds : Array Field} {f : Nat} {fd : Field} {i : TypeInfo} (hu : P.underlying s = some (.struct flds)) (hf : flds[f]? = some fd) (hi : P.info? fd.type = some i) (hpos : 0 < i.size) (b o : Nat) :
 (Instr.fieldAt s (.pointer (some ⟨b, o, none⟩)) f).run P w = .ok (.pointer (some ⟨b, o + fd.offset, none⟩)) w := by
 have : ¬ i.size = 0 := by omega
 simp [Instr.fieldAt, run_underlying hu, hf, Instr.sureAddr, fieldPlace, tA0 hi, this, oA0]
theorem zB4 (h : RepM cx σ N m w) {t : TypeId} {x : Operand} {f : Nat} (ho : o.op = .fieldAddr t x f) (ht : TabOK P T) (hx : repA (rx cx σ N m w) (av x) (ρ x))
 (hp : (opEff T G o [av x] m fr).pre) : Runs P w (Res cx σ N m w fr (opEff T G o [av x] m fr)) ((execOp ρ o).run P w) := by
 simp only [opEff, ho] at hp ⊢; split at hp <;> rename_i heq
 · rename_i fs c hd; simp at heq; rw [heq] at hx; have htt := TI.of_ok ht t (fun e => by rw [e] at hd; cases hd); have key : ∀ off sz ag, fs[f]? = some (off, sz, ag) → 0 < sz → ∀ b q, ρ x = .pointer (some ⟨b, q, none⟩) → (execOp ρ o).run P w = .ok (.value (.pointer (some ⟨b, q + off, none⟩))) w := by
    intro off sz ag hf hpos b q e; obtain ⟨flds, fd, i, d, hu, hq, hoff, hi, hs, _⟩ := bB0 htt hd hf; have := dB6 (P := P) (w := w) hu hq hi (by omega) b q; rw [hoff] at this; simp [execOp, ho, e, this]
   unfold repA at hx; unfold fieldE at hp ⊢; split at hp
   · rename_i id off
     try simp only []
     split at hp
     · rename_i q sz ag hf; split at hp
       · rename_i hpos
         try simp only [hf, hpos, if_true]
         unfold repC at hx; obtain ⟨hn, b, e1, e2⟩ := hx; exact bA0 (key q sz ag hf hpos b off e2) (rA0 h (by unfold repA repC; exact ⟨hn, b, e1, rfl⟩))
       · exact hp.elim
     · exact hp.elim
   · rename_i cs off
     try simp only []
     split at hp
     · rename_i q sz ag hf; split at hp
       · rename_i hpos
         try simp only [hf, hpos, if_true]
         unfold repC at hx; obtain ⟨b, vs, e1, e2, e3⟩ := hx; exact bA0 (key q sz ag hf hpos b off e1) (rA0 h (by unfold repA repC; exact ⟨b, vs, rfl, e2, e3⟩))
       · exact hp.elim
     · exact hp.elim
   · rename_i u y off
     try simp only []
     split at hp
     · rename_i q sz ag hf; split at hp
       · rename_i hpos
         try simp only [hf, hpos, if_true]
         unfold repC at hx; obtain ⟨b, p, vs, e1, e2, e3⟩ := hx; exact bA0 (key q sz ag hf hpos b (p + off) e1) (rA0 h (by unfold repA repC; exact ⟨b, p, vs, by rw [Nat.add_assoc], e2, e3⟩))
       · exact hp.elim
     · exact hp.elim
   · rename_i id z i off
     try simp only []
     split at hp
     · rename_i q sz ag hf; split at hp
       · rename_i hpos
         try simp only [hf, hpos, if_true]
         unfold repC at hx; obtain ⟨hn, b, n, c, e1, e2⟩ := hx; exact bA0 (key q sz ag hf hpos b _ e2) (rA0 h (by unfold repA repC; exact ⟨hn, b, n, c, e1, by rw [Nat.add_assoc]⟩))
       · exact hp.elim
     · exact hp.elim
   · exact hp.elim
 · exact hp.elim
theorem zA3 {t : TypeId} {i : TypeInfo} {d : TypeDesc} (hi : P.info? t = some i) (hd : P.underlying t = some d) (h1 : aggB d = false → i.size = 1) (vs : List Value) (off : Nat) (_ : off + i.size ≤ vs.length) (hz : aggB d = false → off < vs.length) :
 (part t vs.toArray off).run P w = .ok (if aggB d then .agg ((vs.drop off).take i.size).toArray else ((vs.drop off).take i.size).getD 0 undef) w := by
 unfold part; rw [Sem.run_bind, iB3 hd, Result.andThen_ok]
 cases ha : aggB d with
 | true => simp [tA0 hi, Nat.add_sub_cancel_left]
 | false =>
   have hlt := hz ha; have h1' := h1 ha; simp [hlt, h1', List.getD, List.getElem?_drop]
theorem uD0 (h : RepM cx σ N m w) {t : TypeId} {x : Operand} {f : Nat} (ho : o.op = .field t x f) (ht : TabOK P T) (hx : repA (rx cx σ N m w) (av x) (ρ x))
 (hp : (opEff T G o [av x] m fr).pre) : Runs P w (Res cx σ N m w fr (opEff T G o [av x] m fr)) ((execOp ρ o).run P w) := by
 simp only [opEff, ho] at hp ⊢; split at hp <;> rename_i heq
 · rename_i fs cs hd; simp at heq; rw [heq] at hx; have htt := TI.of_ok ht t (fun e => by rw [e] at hd; cases hd); split at hp
   · rename_i off sz ag hf; split at hp
     · rename_i hle
       try simp only [hf, hle, if_true]
       unfold repA at hx; obtain ⟨vs, e, hcs⟩ := hx; obtain ⟨flds, fd, i, d, hu, hq, hoff, hi, hs, hdd, hag, _, h1⟩ := bB0 htt hd hf; have hvl := jA0 _ _ hcs; have h1' : ag = false → sz = 1 := h1; have hr := zA3 (P := P) (w := w) hi hdd (fun e => by rw [hs]; exact h1' (hag ▸ e)) vs off (by rw [hs]; omega) (fun e => by have := h1' (hag ▸ e); omega); rw [hag, hs] at hr; refine bA0 (v := if ag then .agg ((vs.drop off).take sz).toArray else ((vs.drop off).take sz).getD 0 undef) (w' := w) ?_ (rA0 h (vA2 (lA0 sz _ _ (mA0 off _ _ hcs)) (fun e => by simp; have := h1' e; omega))); simp [execOp, ho, e, Instr.field, run_underlying hu, hq, asAgg, hoff, hr]
     · exact hp.elim
   · exact hp.elim
 · exact hp.elim
theorem uB4 (hgl : GLe G.gl cx.gv) (h : RepM cx σ N m w) {t : TypeId} {x y : Operand} (ho : o.op = .indexAddr t x y) (ht : TabOK P T) (hx : repA (rx cx σ N m w) (av x) (ρ x)) (hy : repA (rx cx σ N m w) (av y) (ρ y))
 (hp : (opEff T G o [av x, av y] m fr).pre) : Runs P w (Res cx σ N m w fr (opEff T G o [av x, av y] m fr)) ((execOp ρ o).run P w) := by
 simp only [opEff, ho] at hp ⊢; split at hp <;> rename_i heq
 · rename_i e c k i hd; simp at heq; rw [heq.1] at hx; rw [heq.2] at hy; have htt := TI.of_ok ht t (fun e => by rw [e] at hd; cases hd); have hu := htt.slice e hd; obtain ⟨ey, _⟩ := lA1 hy; have key : ∀ u : Ty, (TI.of T e).ty = some u → ∀ b q n cap, ρ x = .slice (some ⟨b, q, none⟩) n cap → 0 ≤ i → i < n →
    (execOp ρ o).run P w = .ok (.value (.pointer (some ⟨b, q + i.toNat * u.n, none⟩))) w := by
    intro u hty b q n cap e1 h0 h1; have hte := TI.of_ok ht e (fun k => by rw [k] at hty; cases hty); obtain ⟨ii, hii, hs, _⟩ := hte.info; have hun := (hte.ty u hty).1; have := run_indexAt_slice (P := P) w t ⟨b, q, none⟩ n cap k i (by rw [oA4 hu]; exact hu); rw [oA4 hu, tA0 hii, hs, ← hun] at this; simp [execOp, ho, e1, ey, this, h0, h1, oA0]
   unfold repA at hx; unfold indexE at hp ⊢; have done : ∀ (u : Ty) (xs : List u.den) b q n cap (p : Prop), (TI.of T e).ty = some u → ρ x = .slice (some ⟨b, q, none⟩) n cap → n = xs.length → (h0 : 0 ≤ i) → (h1 : i < xs.length) →
    (∃ vs, ro w (Owned cx σ m) u xs[i.toNat] vs ∧ CellsAt w (Owned cx σ m) b (q + i.toNat * u.n) vs) →
    Runs P w (Res cx σ N m w fr ⟨p, .one (.rp u (xs.getD i.toNat u.dflt) 0), [], 0 ≤ i ∧ i < xs.length⟩) ((execOp ρ o).run P w) := by
    intro u xs b q n cap p hty e1 hn h0 h1 hv; obtain ⟨vs, hr, hc⟩ := hv; refine bA0 (key u hty b q n cap e1 h0 (by omega)) (Res.pure h rfl ?_ ⟨h0, h1⟩); unfold repA repC; exact ⟨b, q + i.toNat * u.n, vs, rfl, by rw [pA4 xs i.toNat u.dflt (by omega)]; exact hr, hc⟩
   split at hp
   · rename_i u xs cp
     try simp only []
     split at hp
     · rename_i hty
       try simp only [hty, if_true]
       obtain ⟨h0, h1⟩ := hp; unfold repC at hx; obtain ⟨⟨a, len, cap, e1, e2, e3, e4, e5⟩, _⟩ := hx; simp at e1
       rcases e5 with e7 | ⟨b, q, flat, e6, e7, e8⟩
       · omega
       · subst e6; obtain ⟨pre, vs, post, he, hpl, hr, _, _⟩ := sA2 (fun x c => qA0 u x c) e7 (i := i.toNat) (by omega); refine done u xs b q len cap _ hty e1 e2 h0 h1 ⟨vs, hr, fun j v hv => ?_⟩; have hj : j < vs.length := (List.getElem?_eq_some_iff.1 hv).1; have := e8 (i.toNat * u.n + j) v (by rw [he, List.getElem?_append_right (by omega), hpl, show i.toNat * u.n + j - i.toNat * u.n = j by omega, List.getElem?_append_left hj]; exact hv)
         rwa [← Nat.add_assoc] at this
     · exact hp.elim
   · rename_i id
     try simp only []
     unfold repC at hx; obtain ⟨hn, e1⟩ := hx; simp only [rx] at e1 hn; split at hp
     · rename_i e' u xs hm
       try simp only [hm]
       split at hp
       · rename_i hty
         try simp only [hty, if_true]
         obtain ⟨h0, h1⟩ := hp; have hb := h.blk id; rw [hm] at hb; obtain ⟨n', flat, rfl, k1, k2⟩ := hb; simp only [rx] at k1
         rcases k1.2 with ⟨e4, _⟩ | ⟨g, cap, cur, hz, e3, _⟩
         · omega
         · rw [← e1] at e3; have := key u hty g 0 xs.length cap e3 h0 (by omega); rw [Nat.zero_add] at this; refine bA0 this (Res.pure h rfl ?_ ⟨h0, h1⟩); unfold repA repC; exact ⟨hn, g, xs.length, cap, by simp only [rx]; rw [← e1]; exact e3, by rw [Nat.add_zero]⟩
       · exact hp.elim
     · rename_i u xs hm
       try simp only [hm]
       split at hp
       · rename_i hty
         try simp only [hty, if_true]
         obtain ⟨h0, h1⟩ := hp; have hb := h.blk id; rw [hm] at hb; obtain ⟨a, len, cap, e3, e4, e5, e6, e7⟩ := hb; simp [rx] at e3
         rcases e7 with ⟨e8, e9⟩ | ⟨b, q, flat, e8, e9, e10⟩
         · omega
         · subst e8; obtain ⟨vs, hr, hc⟩ := kA6 h hm e3 (i := i.toNat) (by omega); exact done u xs b q len cap _ hty (e1.trans e3) e4 h0 h1 ⟨vs, hr, hc⟩
       · exact hp.elim
     · rename_i e' u p' fid xs hole hm
       try simp only [hm]
       split at hp
       · rename_i hty
         try simp only [hty, if_true]
         obtain ⟨h0, h1⟩ := hp; have hb := h.blk id; rw [hm] at hb; obtain ⟨f, vs, flat, _, _, _, k1, k2⟩ := hb; simp only [rx] at k1
         rcases k1.2 with ⟨e4, _⟩ | ⟨g, cap, cur, hz, e3, _⟩
         · omega
         · rw [← e1] at e3; have := key u hty g 0 xs.length cap e3 h0 (by omega); rw [Nat.zero_add] at this; refine bA0 this (Res.pure h rfl ?_ ⟨h0, h1⟩); unfold repA repC; exact ⟨hn, g, xs.length, cap, by simp only [rx]; rw [← e1]; exact e3, by rw [Nat.add_zero]⟩
       · exact hp.elim
     · exact hp.elim
   · rename_i id sz lo len
     try simp only []
     split at hp
     · rename_i e' u xs hm
       try simp only [hm]
       split at hp
       · rename_i hty
         try simp only [hty, and_self, if_true]
         obtain ⟨hty1, rfl, hll⟩ := hty; obtain ⟨h0, h1⟩ := hp; have hb := h.blk id; rw [hm] at hb; obtain ⟨a, cap, flat, e1, e2, e3, e4, e5⟩ := yA1 hb; obtain ⟨g1, g2, a', g3, g4⟩ := uA4 hx (by simp only [rx]; exact e1); obtain ⟨b, rfl, rfl⟩ := g4 (by omega); have := key u hty1 b (lo * u.n) len (cap - lo) g3 h0 (by omega); refine bA0 this (Res.pure h rfl ?_ ⟨h0, h1⟩); unfold repC at hx; unfold repA repC; refine ⟨hx.1, b, xs.length, cap, by simp only [rx]; exact e1, ?_⟩; rw [Nat.add_zero, show ((lo : Int) + i).toNat = lo + i.toNat by omega, Nat.add_mul]
       · exact hp.elim
     · exact hp.elim
   · rename_i id n
     try simp only []
     split at hp
     · rename_i hz; rw [if_pos hz]; obtain ⟨h0, h1⟩ := hp; unfold repC at hx; obtain ⟨hn, _, _, b, e1, e2⟩ := hx; have hte := TI.of_ok ht e (fun k => by rw [k] at hz; cases hz); obtain ⟨ii, hii, hs, _⟩ := hte.info; have := run_indexAt_slice (P := P) w t ⟨b, 0, none⟩ n n k i (by rw [oA4 hu]; exact hu); rw [oA4 hu, tA0 hii, hs, hz] at this; have hrun : (execOp ρ o).run P w = .ok (.value (.pointer (some ⟨b, i.toNat, none⟩))) w := by
        simp [execOp, ho, e2, ey, this, h0, h1, oA0]
       refine bA0 hrun (rA0 h ?_); unfold repA repC; exact ⟨hn, b, e1, rfl⟩
     · exact hp.elim
   · rename_i fid j
     try simp only []
     split at hp
     · rename_i e' u xss hm
       try simp only [hm]
       split at hp
       · rename_i hty
         try simp only [hty, if_true]
         obtain ⟨h0, h1⟩ := hp; unfold repC at hx; obtain ⟨hn, f, vs, e1, e2⟩ := hx; simp only [rx] at e1 hn; obtain ⟨a, c, e3, e4, e5, e6, e7⟩ := aB6 h hm e1 e2; obtain ⟨b, rfl⟩ := e7 (by omega); have := key u hty b 0 _ c e3 h0 (by omega); rw [Nat.zero_add] at this; refine bA0 this (Res.pure h rfl ?_ ⟨h0, h1⟩); unfold repA repC; exact ⟨hn, f, vs, b, _, c, by simp only [rx]; exact e1, by rw [← e3]; exact e2, by rw [Nat.add_zero]⟩
       · exact hp.elim
     · exact hp.elim
   · exact hp.elim
 · rename_i n e u id sz i0 off k i hd; simp at heq; rw [heq.1] at hx; rw [heq.2] at hy; have htt := TI.of_ok ht t (fun e => by rw [e] at hd; cases hd); obtain ⟨hu, _⟩ := htt.arr n e u hd; obtain ⟨ey, _⟩ := lA1 hy; split at hp
   · rename_i hc; obtain ⟨c1, c2, c3, hty⟩ := hc; subst c1 c2 c3; simp only [hty, and_self, if_true]; obtain ⟨h0, h1⟩ := hp; have hte := TI.of_ok ht e (fun k => by rw [k] at hty; cases hty); obtain ⟨ii, hii, hs, _⟩ := hte.info; have hun := (hte.ty u hty).1; unfold repA repC at hx; obtain ⟨hn, b, n', c', e1, e2⟩ := hx; simp only [rx] at e1 hn; have hel : P.elem t = e := by simp [Program.elem, hu]
     have hal : P.arrayLen t = n := by simp [Program.arrayLen, hu]
     have hrun : (execOp ρ o).run P w = .ok (.value (.pointer (some ⟨b, i.toNat * u.n + 0, none⟩))) w := by
      have := run_indexAt_array (P := P) (w := w) t ⟨b, 0, none⟩ k i (by rw [hel, hal]; exact hu); rw [hel, hal, tA0 hii, hs, ← hun] at this; have e3 : ρ x = .pointer (some ⟨b, 0, none⟩) := by simpa using e2
      simp [execOp, ho, e3, ey, this, h0, h1, oA0]
     refine bA0 hrun (Res.pure h rfl ?_ ⟨h0, h1⟩); unfold repA repC; exact ⟨hn, b, n', c', e1, rfl⟩
   · exact hp.elim
 · rename_i n e u id off k i hd; simp at heq; rw [heq.1] at hx; rw [heq.2] at hy; have htt := TI.of_ok ht t (fun e => by rw [e] at hd; cases hd); obtain ⟨hu, _⟩ := htt.arr n e u hd; obtain ⟨ey, _⟩ := lA1 hy; split at hp
   · rename_i hty; rw [if_pos hty]; unfold locA at hp ⊢; split at hp
     · rename_i hb; rw [if_pos hb]; obtain ⟨h0, h1⟩ := hb; have hte := TI.of_ok ht e (fun k => by rw [k] at hty; cases hty); obtain ⟨ii, hii, hs, _⟩ := hte.info; have hun := (hte.ty u hty).1; unfold repA repC at hx; obtain ⟨hn, b, e1, e2⟩ := hx; simp only [rx] at e1 hn; have hel : P.elem t = e := by simp [Program.elem, hu]
       have hal : P.arrayLen t = n := by simp [Program.arrayLen, hu]
       have hrun : (execOp ρ o).run P w = .ok (.value (.pointer (some ⟨b, off + i.toNat * u.n, none⟩))) w := by
        have := run_indexAt_array (P := P) (w := w) t ⟨b, off, none⟩ k i (by rw [hel, hal]; exact hu); rw [hel, hal, tA0 hii, hs, ← hun] at this; simp [execOp, ho, e2, ey, this, h0, h1, oA0]
       refine bA0 hrun (Res.pure h rfl ?_ trivial); unfold repA repC; exact ⟨hn, b, by simp only [rx]; exact e1, rfl⟩
     · exact hp.elim
   · exact hp.elim
 · rename_i n e u g k i hd; simp at heq; rw [heq.1] at hx; rw [heq.2] at hy; have htt := TI.of_ok ht t (fun e => by rw [e] at hd; cases hd); obtain ⟨hu, _⟩ := htt.arr n e u hd; obtain ⟨ey, _⟩ := lA1 hy; unfold glE at hp ⊢; split at hp
   · rename_i v hfg; split at hp
     · rename_i xs hcast; split at hp
       · rename_i hc; rw [if_pos hc]; obtain ⟨c1, hty⟩ := hc; obtain ⟨h0, h1⟩ := hp; have hh2 : ∃ et : v.t = u, et ▸ v.xs = xs := by
          unfold castTy at hcast; split at hcast
          · rename_i et; exact ⟨et, by simpa using hcast⟩
          · cases hcast
         obtain ⟨et, ex⟩ := hh2; obtain ⟨hno, hnF, hlt, vs, ee, hh, hw, hro⟩ := h.gl_not (hgl g v hfg); have hte := TI.of_ok ht e (fun k => by rw [k] at hty; cases hty); obtain ⟨ii, hii, hs, _⟩ := hte.info; have hun := (hte.ty u hty).1; unfold repA repC at hx; have hel : P.elem t = e := by simp [Program.elem, hu]
         have hal : P.arrayLen t = n := by simp [Program.arrayLen, hu]
         have hrun : (execOp ρ o).run P w = .ok (.value (.pointer (some ⟨g, i.toNat * u.n, none⟩))) w := by
          have := run_indexAt_array (P := P) (w := w) t ⟨g, 0, none⟩ k i (by rw [hel, hal]; exact hu); rw [hel, hal, tA0 hii, hs, ← hun] at this; simp [execOp, ho, hx, ey, this, h0, h1, oA0]
         refine bA0 hrun (Res.pure h rfl ?_ ⟨h0, h1⟩); subst et; have ex : v.xs = xs := ex; have hr := hro; rw [ex] at hr; obtain ⟨pre, cv, post, he, hpl, hr1, _, _⟩ := sA2 (fun x c => qA0 v.t x c) hr (i := i.toNat) (by omega); unfold repA repC; refine ⟨g, i.toNat * v.t.n, cv, rfl, by rw [pA4 xs i.toNat v.t.dflt (by omega)]; exact hr1, fun j z hz => ⟨?_, ?_⟩⟩
         · rintro (q | ⟨id, q1, q2⟩)
           · exact hnF q
           · exact hno id q1 q2
         · have hj : j < cv.length := (List.getElem?_eq_some_iff.1 hz).1; have hq : vs.toList[i.toNat * v.t.n + j]? = some z := by
            rw [he, List.getElem?_append_right (by omega), hpl, show i.toNat * v.t.n + j - i.toNat * v.t.n = j by omega, List.getElem?_append_left hj]; exact hz
           simp only [rx, World.cell?, hw]; simpa using hq
       · exact hp.elim
     · exact hp.elim
   · exact hp.elim
 · exact hp.elim
end
end Go.Ev
