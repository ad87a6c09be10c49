/- Rows whose elements have rows: loads and stores. -/
import Derived.Test.YtdeihcabmpcaoaaGreatEvOps14ToG2
import Derived.Test.YtdeihcabmpcaoaaGreatEvOps10ToOps11
set_option linter.unusedSimpArgs false
set_option linter.unusedVariables false
namespace Go.Ev

section
variable {cx : Cx} {σ : Nat → Value} {N : Nat → Prop} {m : Mem} {w : World} {P : Program} {T : Tab} {G : Env} {o : Oper} {fr : Nat} {ρ : Operand → Value} {av : Operand → AV}

/-- Cells of a row are written. -/
theorem rowR_store {e : TypeId} {s n n' c' b : Nat} {flat : List Value} (k : RowR w e s (.slice (some ⟨b, 0, none⟩) n' c') n flat) (hn : 0 < n) {t : TypeId} {ii : TypeInfo} (hii : P.info? t = some ii) {off : Nat} {v : Value} (hl : v.cells.size = ii.size) (h1 : oneAll v.cells.toList) (hfit : off + ii.size ≤ flat.length) :
 ∃ w', (storeVar t ⟨b, off, none⟩ v).run P w = .ok () w' ∧ (∀ j, j ≠ b → w'.heap[j]? = w.heap[j]?) ∧ (w.heap.size ≤ w'.heap.size ∧ w.drawn ≤ w'.drawn) ∧ w'.os = w.os ∧ w'.tape = w.tape ∧ w'.output = w.output ∧ blkOf (.slice (some ⟨b, 0, none⟩) n' c') = some b ∧
   RowR w' e s (.slice (some ⟨b, 0, none⟩) n' c') n (flat.take off ++ v.cells.toList ++ flat.drop (off + v.cells.toList.length)) := by
 obtain ⟨hfl0, k2⟩ := k
 rcases k2 with ⟨e4, _⟩ | ⟨g, cap, cur, hz, e3, hg, hlc, hcm, hcs, htake⟩
 · omega
 · simp only [Value.slice.injEq, Option.some.injEq, Addr.mk.injEq, and_true] at e3
   obtain ⟨rfl, rfl, rfl⟩ := e3
   have hcur : cur.toList = flat ++ cur.toList.drop (n' * s) := by
    conv => lhs; rw [← List.take_append_drop (n' * s) cur.toList, htake]
   have hcz : cur.size = cur.toList.length := by simp
   have hcl : cur.toList.length = flat.length + (cur.toList.drop (n' * s)).length := by
    conv => lhs; rw [hcur]
    simp only [List.length_append]
   have hvl : v.cells.toList.length = ii.size := by simpa using hl
   have hst := run_storeVar_cells (P := P) (w := w) (t := t) hii (off := off) hg hl h1 (by omega)
   generalize cur.toList.drop (n' * s) = rest at *
   have hnc : cur.toList.take off ++ v.cells.toList ++ cur.toList.drop (off + v.cells.toList.length) = (flat.take off ++ v.cells.toList ++ flat.drop (off + v.cells.toList.length)) ++ rest := by
    rw [hcur, List.take_append_of_le_length (by omega), List.drop_append_of_le_length (by omega)]
    simp
   rw [hnc] at hst
   have hlen : (flat.take off ++ v.cells.toList ++ flat.drop (off + v.cells.toList.length)).length = flat.length := by
    simp only [List.length_append, List.length_take, List.length_drop]; omega
   generalize flat.take off ++ v.cells.toList ++ flat.drop (off + v.cells.toList.length) = nf at *
   refine ⟨_, hst, fun j hj => setRow_other w b j _ hj, ⟨by simp, Nat.le_refl _⟩, rfl, rfl, rfl, blkOf_slice hz, by omega, .inr ⟨b, c', _, hz, rfl, setRow_heap w b cur _ e (0, 0) hg, hlc, hcm, by
    rw [List.size_toArray, ← hcs, hcz, hcl, List.length_append]; omega, by
    rw [← hfl0, ← hlen]; exact List.take_left⟩⟩

theorem cells_one {v : Value} (h : v.oneCell' = true) : v.cells = #[v] := by cases v <;> first | rfl | (simp [Value.oneCell'] at h)
theorem run_load1 {t : TypeId} {x : Operand} (ho : o.op = .load t x) (ht : TabOK P T) (hs : (TI.of T t).size = 1) (ha : (TI.of T t).agg = false) {b q : Nat} {v : Value} (e1 : ρ x = .pointer (some ⟨b, q, none⟩)) (hc : w.cell? ⟨b, q, none⟩ = some v) :
 (execOp ρ o).run P w = .ok (.value v) w := by
 have := run_loadVar_cells (P := P) (w := w) (b := b) (o := q) (vs := [v]) (TI.of_ok ht t (TI_ne (by omega))) (by simp [hs]) (fun j u hu => by
  match j, hu with
  | 0, hu => simp at hu; rw [← hu]; exact hc)
 simp [execOp, ho, Instr.loadAt, Instr.sureAddr, e1, this, ha]

/-- The element's row is looked at: nothing changes. -/
theorem view_row (h : RepM cx σ N m w) {id fid : Nat} {e e2 : TypeId} {t u : Ty} {p : Nat} {xs : List t.den} {xss : List (List u.den)} (hn : ¬ N id) (hm : m id = .rowg e t p fid xs none) (hf : m fid = .fam e2 u xss) {i : Nat} (hi : i < xs.length) {pr q : Prop} (hq : q) :
 ∃ v, (∀ b n c, σ id = .slice (some ⟨b, 0, none⟩) n c → w.cell? ⟨b, i * t.n + p, none⟩ = some v) ∧ Res cx σ N m w fr ⟨pr, .one (.nst fid i), [], q⟩ v w := by
 have hb := h.blk id
 rw [hm] at hb
 obtain ⟨f, vs, flat, b1, b2, b3, b4, b5⟩ := hb
 simp only [rx] at b1 b2 b4
 have hb2 := h.blk fid
 rw [hf] at hb2
 obtain ⟨f', vs', c1, c2⟩ := hb2
 simp only [rx] at c1
 rw [b2] at c1
 cases c1
 have hiv : i < vs.toList.length := by omega
 obtain ⟨v, hv⟩ : ∃ v, vs.toList[i]? = some v := ⟨_, List.getElem?_eq_getElem hiv⟩
 obtain ⟨pre, c, post, e1, e3, e4, e5, e6⟩ := elG_at b5 (by rw [holed_len]; exact b3) hi
 have hcv : c[p]? = some v := e4.2.1 v (by
  have hh : (holed vs.toList none)[i]? = some (some v) := by simp only [holed, List.getElem?_map, hv, Option.map_some]
  rw [List.getElem?_eq_getElem (by rw [holed_len]; omega)] at hh
  simpa using hh)
 refine ⟨v, fun b n cc hs => ?_, ?_⟩
 · have h0 : blkOf (σ id) = some b := by
    rcases b4.2 with ⟨k0, _⟩ | ⟨g, cap, cur, hz, q1, _⟩
    · omega
    · rw [q1] at hs ⊢; cases hs; exact blkOf_slice hz
   exact rowR_cells b4 h0 (i * t.n + p) v (by
    rw [e1, List.getElem?_append_right (by omega), e3, Nat.add_sub_cancel_left, List.getElem?_append_left e4.1]; exact hcv)
 · obtain ⟨g1, g2⟩ := h.weaken (N' := Nx N fr) (fun id hid => hid.1)
   refine ⟨σ, g1, g2, ?_, hq⟩
   unfold repA repC
   exact ⟨fun k => b1 k.1, f, vs, b2, hv⟩
theorem s_loadG (h : RepM cx σ N m w) (hfr : ∀ id, fr ≤ id → id < fr + 32 → N id) {t : TypeId} {x : Operand} {md : Nat} (ho : o.op = .load t x) (ht : TabOK P T) {c : C1} (hx : repC (rx cx σ N m w) c (ρ x))
 (hp : (loadG m (TI.of T t) md fr c).pre) : Runs P w (Res cx σ N m w fr (loadG m (TI.of T t) md fr c)) ((execOp ρ o).run P w) := by
 unfold loadG at hp ⊢
 split at hp
 · rename_i id sz i off
   split at hp
   · rename_i e t' p fid xs hm
     split at hp
     · rename_i hc
       rw [if_pos hc]
       obtain ⟨rfl, rfl, hs, ha⟩ := hc
       unfold repC at hx
       obtain ⟨hn, b, n, c, e1, e2⟩ := hx
       simp only [rx] at e1 hn
       split at hp
       · rename_i hmd
         rw [if_pos hmd]
         unfold peekG at hp ⊢
         split at hp
         · rename_i e2' u xss hf
           obtain ⟨h0, h1⟩ := hp
           obtain ⟨v, q1, q2, ⟨a, cc, q3, q4, q5, q6⟩, _⟩ := lend_row (pr := True) (q := True) h hfr hn hm hf (i := i.toNat) (by omega) trivial
           obtain ⟨g1, g2⟩ := h.put (hfr fr (by omega) (by omega)) v (.lenb (xss.getD i.toNat []).length) w q2 (same_world w) (fun b ho => by cases ho)
            (fun _ => ⟨a, cc, by simp only [rx]; rw [upd_same]; exact q3, q4, q5, q6⟩) (fun b hb => by rw [q3] at hb ⊢; exact hb_slice.1 hb)
           obtain ⟨g3, g4⟩ := g1.weaken (N' := Nx N fr) (fun id hid => ⟨hid.1, fun e => hid.2 ⟨by omega, by omega⟩⟩)
           refine runs_value (run_load1 ho ht hs ha e2 (q1 b n c e1)) ⟨_, g3, ⟨g2.k.trans g4.k (Nat.le_refl _), fun id hid => g2.σ id hid, fun id hid => hid.1⟩, ?_, trivial⟩
           unfold repA repC
           exact ⟨fun k => k.2 ⟨by omega, by omega⟩, by simp only [rx]; rw [upd_same]⟩
         · exact hp.elim
       · rename_i hmd
         rw [if_neg hmd]
         split at hp
         · rename_i hmd5
           rw [if_pos hmd5]
           unfold lendG at hp ⊢
           split at hp
           · rename_i e2' u xss hf
             obtain ⟨h0, h1⟩ := hp
             obtain ⟨v, q1, q2, _, q3⟩ := lend_row (pr := 0 ≤ i ∧ i < xs.length) (q := True) h hfr hn hm hf (i := i.toNat) (by omega) trivial
             exact runs_value (run_load1 ho ht hs ha e2 (q1 b n c e1)) q3
           · exact hp.elim
         · rename_i hmd5
           rw [if_neg hmd5]
           split at hp
           · rename_i hmd10
             rw [if_pos hmd10]
             unfold viewG at hp ⊢
             split at hp
             · rename_i e2' u xss hf
               obtain ⟨h0, h1⟩ := hp
               obtain ⟨v, q1, q2⟩ := view_row (pr := 0 ≤ i ∧ i < xs.length) (q := True) h hn hm hf (i := i.toNat) (by omega) trivial
               exact runs_value (run_load1 ho ht hs ha e2 (q1 b n c e1)) q2
             · exact hp.elim
           · exact hp.elim
     · exact hp.elim
   · exact hp.elim
 · exact hp.elim

theorem set_over {α : Type} (c : List α) (p : Nat) (v : α) (h : p < c.length) : c.take p ++ [v] ++ c.drop (p + 1) = c.set p v := by
 rw [List.set_eq_take_append_cons_drop, if_pos h]; simp

/-- A row is given for the one that was lent out. -/
theorem back_row (h : RepM cx σ N m w) (hfr0 : N fr) {id fid r : Nat} {e e2 : TypeId} {t u : Ty} {p : Nat} {xs : List t.den} {xss : List (List u.den)} {zs : List u.den} {j : Nat} (hn : ¬ N id) (hnr : ¬ N r) (hm : m id = .rowg e t p fid xs (some j)) (hf : m fid = .fam e2 u xss) (hr : m r = .row e2 u zs) (hj : j < xs.length)
 {b n c : Nat} (e1 : σ id = .slice (some ⟨b, 0, none⟩) n c) {t1 : TypeId} {ii : TypeInfo} (hii : P.info? t1 = some ii) (hs1 : ii.size = 1) {pr q : Prop} (hq : q) :
 ∃ w', (storeVar t1 ⟨b, j * t.n + p, none⟩ (σ r)).run P w = .ok () w' ∧
   Res cx σ N m w fr ⟨pr, .one .undef, [(fid, .dead), (r, .dead), (id, .rowg e t p fr xs none), (fr, .fam e2 u (xss.set j zs))], q⟩ undef w' := by
 have hb := h.blk id
 rw [hm] at hb
 obtain ⟨f, vs, flat, b1, b2, b3, b4, b5⟩ := hb
 simp only [rx] at b1 b2 b4
 have hb2 := h.blk fid
 rw [hf] at hb2
 obtain ⟨f', vs', c1, c2⟩ := hb2
 simp only [rx] at c1
 rw [b2] at c1
 cases c1
 have hb3 := h.blk r
 rw [hr] at hb3
 obtain ⟨n0, fl0, rfl, d1, d2⟩ := hb3
 simp only [rx] at d1 d2
 have ne1 : id ≠ fid := fun k => by rw [k, hf] at hm; cases hm
 have ne2 : id ≠ r := fun k => by rw [k, hr] at hm; cases hm
 have ne3 : fid ≠ r := fun k => by rw [k, hr] at hf; cases hf
 have ne4 : id ≠ fr := fun k => hn (k ▸ hfr0)
 have ne5 : fid ≠ fr := fun k => b1 (k ▸ hfr0)
 have ne6 : r ≠ fr := fun k => hnr (k ▸ hfr0)
 have oid : own (m id) = true := by rw [hm]; rfl
 have ofid : own (m fid) = true := by rw [hf]; rfl
 have or0 : own (m r) = true := by rw [hr]; rfl
 have hxl : xss.length = xs.length := by rw [← b3]; exact c2.len.symm
 have hjv : j < vs.toList.length := by omega
 obtain ⟨pre, c0, post, f1, f3, f4, f5, f6⟩ := elG_at b5 (by rw [holed_len]; exact b3) hj
 have hlc : c0.length = t.n := elG_len _ _ f4
 have hone : (σ r).oneCell' = true := h.hone r
 have hcells : (σ r).cells = #[σ r] := cells_one hone
 rw [e1] at b4
 obtain ⟨w', hrun, w1, w2, w3, w4, w5, w6, w7⟩ := rowR_store (P := P) b4 (by omega) hii (off := j * t.n + p) (v := σ r) (by rw [hcells, hs1]; rfl) (by rw [hcells]; intro u hu; simp at hu; rw [hu]; exact hone) (by
  rw [f1, hs1]; simp only [List.length_append]; have := f4.1; omega)
 refine ⟨w', hrun, ?_⟩
 have hov : flat.take (j * t.n + p) ++ (σ r).cells.toList ++ flat.drop (j * t.n + p + (σ r).cells.toList.length) = pre ++ (c0.set p (σ r) ++ post) := by
  rw [hcells, f1, ← f3]
  have := over_mid pre c0 post [σ r] p (by simp; exact f4.1)
  simp only [List.toList_toArray, List.length_singleton] at this ⊢
  rw [this, set_over c0 p (σ r) f4.1]
 rw [hov] at w7
 have hbf : ∀ (k : Nat) q b, vs.toList[k]? = some q → blkOf q = some b → hb (σ fid) b := fun k q b hq hb => by rw [b2]; exact hb_fam.2 ⟨q, List.mem_of_getElem? hq, hb⟩
 let vs2 := vs.toList.set j (σ r)
 have hv2 : ∀ k q, vs2[k]? = some q → (k = j ∧ q = σ r) ∨ (k ≠ j ∧ vs.toList[k]? = some q) := fun k q hq => by
  simp only [vs2] at hq
  rw [List.getElem?_set] at hq
  by_cases hij : j = k
  · subst hij
    rw [if_pos rfl, if_pos hjv] at hq
    exact .inl ⟨rfl, by simpa using hq.symm⟩
  · rw [if_neg hij] at hq
    exact .inr ⟨fun e => hij e.symm, hq⟩
 let m' : Mem := upd (upd (upd (upd m fid .dead) r .dead) id (.rowg e t p fr xs none)) fr (.fam e2 u (xss.set j zs))
 let σ' : Nat → Value := upd σ fr (.func (.func 0) #[] vs2.toArray)
 have m1 : m' fid = .dead := by simp only [m']; rw [upd_ne _ _ ne5, upd_ne _ _ (fun k => ne1 k.symm), upd_ne _ _ ne3, upd_same]
 have m2 : m' r = .dead := by simp only [m']; rw [upd_ne _ _ ne6, upd_ne _ _ (fun k => ne2 k.symm), upd_same]
 have m3 : m' id = .rowg e t p fr xs none := by simp only [m']; rw [upd_ne _ _ ne4, upd_same]
 have m4 : m' fr = .fam e2 u (xss.set j zs) := upd_same _ _ _
 have m5 : ∀ i, i ≠ id → i ≠ fid → i ≠ r → i ≠ fr → m' i = m i := fun i h1 h2 h3 h4 => by simp only [m']; rw [upd_ne _ _ h4, upd_ne _ _ h1, upd_ne _ _ h3, upd_ne _ _ h2]
 have s1 : σ' fr = .func (.func 0) #[] vs2.toArray := upd_same _ _ _
 have s2 : ∀ i, i ≠ fr → σ' i = σ i := fun i h1 => upd_ne _ _ h1
 have hr0b : ∀ b, blkOf (σ r) = some b → hb (σ r) b := fun b hb => .inl hb
 have hfb : ∀ b, hb (σ' fr) b → hb (σ fid) b ∨ hb (σ r) b := fun b hb => by
  rw [s1, hb_fam] at hb
  obtain ⟨q, hq, hqb⟩ := hb
  obtain ⟨i, hi, rfl⟩ := List.getElem_of_mem hq
  have hi2 := List.getElem?_eq_getElem hi
  simp only [List.toList_toArray] at hi2 hi hqb
  rcases hv2 i _ hi2 with ⟨_, h2⟩ | ⟨_, h2⟩
  · rw [h2] at hqb; exact .inr (hr0b b hqb)
  · exact .inl (hbf i _ b h2 hqb)
 have hidb : hb (σ id) b := by rw [e1]; exact .inl w6
 have hblk : ∀ bb, (hb (σ fid) bb ∨ hb (σ r) bb) → w'.heap[bb]? = w.heap[bb]? := fun bb hq => by
  refine w1 bb fun e => ?_
  rw [e] at hq
  rcases hq with hq | hq
  · exact ne1 (h.inj id fid b oid ofid hidb hq)
  · exact ne2 (h.inj id r b oid or0 hidb hq)
 obtain ⟨k1, k2⟩ := h.step (σ' := σ') (N' := Nx N fr) (m' := m') (w' := w') (fun i => i = id ∨ i = fid ∨ i = r ∨ i = fr) (fun i k => k.1)
  (fun i k => by
    have h1 : i ≠ fr := fun e => k.2 ⟨by omega, by omega⟩
    rw [m5 i (fun e => hn (e ▸ k.1)) (fun e => b1 (e ▸ k.1)) (fun e => hnr (e ▸ k.1)) h1]; exact h.fresh i k.1)
  (fun i k => by simp only [not_or] at k; exact ⟨m5 i k.1 k.2.1 k.2.2.1 k.2.2.2, s2 i k.2.2.2⟩)
  (fun i k => s2 i (fun e => k (e ▸ hfr0)))
  (fun bb _ hx => w1 bb (fun e => hx id (.inl rfl) oid (by rw [e]; exact hidb))) w2 w3 w4 w5
  (fun i b hi ho hbb => by
    rcases hi with rfl | rfl | rfl | rfl
    · rw [s2 _ ne4] at hbb
      exact .inr ⟨i, .inl rfl, oid, hbb⟩
    · rw [m1] at ho; cases ho
    · rw [m2] at ho; cases ho
    · rcases hfb b hbb with h1 | h1
      · exact .inr ⟨fid, .inr (.inl rfl), ofid, h1⟩
      · exact .inr ⟨r, .inr (.inr (.inl rfl)), or0, h1⟩)
  (fun i i' b hi hi' ho ho' hb1 hb2 => by
    have kx : hb (σ' id) b → hb (σ' fr) b → False := fun h1 h2 => by
     rw [s2 _ ne4] at h1
     rcases hfb b h2 with h3 | h3
     · exact ne1 (h.inj _ _ b oid ofid h1 h3)
     · exact ne2 (h.inj _ _ b oid or0 h1 h3)
    rcases hi with rfl | rfl | rfl | rfl <;> rcases hi' with rfl | rfl | rfl | rfl <;> first
     | rfl
     | (rw [m1] at ho; cases ho)
     | (rw [m1] at ho'; cases ho')
     | (rw [m2] at ho; cases ho)
     | (rw [m2] at ho'; cases ho')
     | exact (kx hb1 hb2).elim
     | exact (kx hb2 hb1).elim)
  (fun i hi => by
    rcases hi with rfl | rfl | rfl | rfl
    · rw [s2 _ ne4]; exact h.hone _
    · rw [s2 _ ne5]; exact h.hone _
    · rw [s2 _ ne6]; exact h.hone _
    · rw [s1]; rfl)
  (fun hk i hi => by
    rcases hi with rfl | rfl | rfl | rfl
    · rw [m3]
      refine ⟨.func 0, vs2.toArray, _, fun k => k.2 ⟨by omega, by omega⟩, s1, by simp only [vs2, List.toList_toArray, List.length_set]; exact b3, by simp only [rx]; rw [s2 _ ne4, e1]; exact w7, ?_⟩
      simp only [List.toList_toArray, holed, vs2, List.map_set]
      have hz : xs.zip ((vs.toList.map some).set j (some (σ r))) = (xs.zip (holed vs.toList (some j))).set j (xs[j], some (σ r)) := by
       rw [← zip_set2, set_self hj]; simp only [holed, List.set_set]
      rw [hz]
      refine roAll_set (by rw [List.length_zip, holed_len]; omega) (roAll_mono (elG_keep hk.k) _ _ f5) ?_ (roAll_mono (elG_keep hk.k) _ _ f6)
      have hel := elG_keep hk.k _ _ f4
      refine ⟨by rw [List.length_set]; exact hel.1, fun v hv => by cases hv; rw [List.getElem?_set, if_pos rfl, if_pos hel.1], fun u hu => ?_, by rw [List.set_set]; exact hel.2.2.2⟩
      rcases List.mem_or_eq_of_mem_set hu with hu | hu
      · exact hel.2.2.1 u hu
      · rw [hu]; exact hone
    · rw [m1]; trivial
    · rw [m2]; trivial
    · rw [m4]
      refine ⟨.func 0, vs2.toArray, s1, ?_⟩
      simp only [List.toList_toArray]
      refine ⟨by simp only [vs2]; rw [List.length_set, List.length_set]; exact c2.len, fun i xs q h1 h2 => ?_, fun i i2 q q2 b h1 h2 h3 h4 => ?_⟩
      · rcases hv2 i q h2 with ⟨hij, hq⟩ | ⟨hij, hq⟩
        · subst hij hq
          rw [List.getElem?_set, if_pos rfl, if_pos (by omega)] at h1
          simp only [Option.some.injEq] at h1
          subst h1
          exact ⟨h.hone r, fl0, rowR_of_block d1 (fun g hg => hblk g (.inr (hr0b g hg))), roAll_mono (ro_keep hk.k u) _ _ d2⟩
        · rw [List.getElem?_set, if_neg (fun e => hij e.symm)] at h1
          obtain ⟨g1, fl, g2, g3⟩ := c2.row i xs q h1 hq
          exact ⟨g1, fl, rowR_of_block g2 (fun g hg => hblk g (.inl (hbf i q g hq hg))), roAll_mono (ro_keep hk.k u) _ _ g3⟩
      · rcases hv2 i q h1 with ⟨hij, hq⟩ | ⟨hij, hq⟩ <;> rcases hv2 i2 q2 h2 with ⟨hij2, hq2⟩ | ⟨hij2, hq2⟩
        · rw [hij, hij2]
        · rw [hq] at h3
          exact absurd (h.inj fid r b ofid or0 (hbf i2 q2 b hq2 h4) (hr0b b h3)) ne3
        · rw [hq2] at h4
          exact absurd (h.inj fid r b ofid or0 (hbf i q b hq h3) (hr0b b h4)) ne3
        · exact c2.inj i i2 q q2 b hq hq2 h3 h4)
 refine ⟨σ', k1, k2, ?_, hq⟩
 unfold repA repC; trivial
end
end Go.Ev

/- Rows whose elements have rows: new ones; a field is written. -/
set_option linter.unusedSimpArgs false
set_option linter.unusedVariables false
namespace Go.Ev

section
variable {cx : Cx} {σ : Nat → Value} {N : Nat → Prop} {m : Mem} {w : World} {P : Program} {T : Tab} {G : Env} {o : Oper} {fr : Nat} {ρ : Operand → Value} {av : Operand → AV}

def killO (m : Mem) : Option Nat → Mem
 | some i => upd m i .dead
 | none => m
def killH : Option Nat → Heap
 | some i => [(i, .dead)]
 | none => []
theorem killO_ne {m : Mem} {r : Option Nat} {i : Nat} (h : r ≠ some i) : killO m r i = m i := by
 cases r with
 | none => rfl
 | some j => exact upd_ne _ _ (fun e => h (by rw [e]))
theorem killO_eq {m : Mem} {i : Nat} : killO m (some i) i = .dead := upd_same _ _ _

/-- A new row with rows. -/
theorem mk_rowg (h : RepM cx σ N m w) (hfr : ∀ id, fr ≤ id → id < fr + 32 → N id) {r : Option Nat} (hr : ∀ i, r = some i → own (m i) = true ∧ ¬ N i) {e e2 : TypeId} {t u : Ty} {p : Nat} {xs : List t.den} {xss : List (List u.den)} {vs : List Value} (hfam : famRep (rx cx σ N m w) e2 u xss vs)
 (hvs : ∀ v ∈ vs, ∀ b, blkOf v = some b → ∃ i, r = some i ∧ hb (σ i) b) {v : Value} (h1 : v.oneCell' = true) (hvh : ∀ b, hb v b → w.heap.size ≤ b) {w' : World}
 (hw : (∀ b, b < w.heap.size → w'.heap[b]? = w.heap[b]?) ∧ w'.os = w.os ∧ w'.tape = w.tape ∧ w'.output = w.output ∧ w.heap.size ≤ w'.heap.size ∧ w.drawn ≤ w'.drawn) (hlen : vs.length = xs.length) {flat : List Value} (hrow : RowR w' e t.n v xs.length flat)
 (hel : roAll (elG (rx cx σ N m w) t p) (xs.zip (vs.map some)) flat) {av : AV} {v' : Value} (hav : ∀ x : Rx, ¬ x.N fr → x.σ fr = v → repA x av v') {pr q : Prop} (hq : q) :
 Res cx σ N m w fr ⟨pr, av, killH r ++ [(fr + 1, .fam e2 u xss), (fr, .rowg e t p (fr + 1) xs none)], q⟩ v' w' := by
 have n0 : N fr := hfr fr (by omega) (by omega)
 have n1 : N (fr + 1) := hfr (fr + 1) (by omega) (by omega)
 have nr0 : r ≠ some fr := fun e => (hr fr e).2 n0
 have nr1 : r ≠ some (fr + 1) := fun e => (hr _ e).2 n1
 have ne6 : fr + 1 ≠ fr := by omega
 let m' : Mem := upd (upd (killO m r) (fr + 1) (.fam e2 u xss)) fr (.rowg e t p (fr + 1) xs none)
 let σ' : Nat → Value := upd (upd σ (fr + 1) (.func (.func 0) #[] vs.toArray)) fr v
 have hm' : updM m (killH r ++ [(fr + 1, .fam e2 u xss), (fr, .rowg e t p (fr + 1) xs none)]) = m' := by
  rw [updM_append]
  cases r <;> rfl
 have m1 : ∀ i, r = some i → m' i = .dead := fun i e => by
  simp only [m']; rw [upd_ne _ _ (fun k => nr0 (by rw [e, k])), upd_ne _ _ (fun k => nr1 (by rw [e, k])), e, killO_eq]
 have m3 : m' (fr + 1) = .fam e2 u xss := by simp only [m']; rw [upd_ne _ _ ne6, upd_same]
 have m4 : m' fr = .rowg e t p (fr + 1) xs none := upd_same _ _ _
 have m5 : ∀ i, r ≠ some i → i ≠ fr → i ≠ fr + 1 → m' i = m i := fun i h1 h2 h3 => by simp only [m']; rw [upd_ne _ _ h2, upd_ne _ _ h3, killO_ne h1]
 have s1 : σ' fr = v := upd_same _ _ _
 have s2 : σ' (fr + 1) = .func (.func 0) #[] vs.toArray := by simp only [σ']; rw [upd_ne _ _ ne6, upd_same]
 have s3 : ∀ i, i ≠ fr → i ≠ fr + 1 → σ' i = σ i := fun i h1 h2 => by simp only [σ']; rw [upd_ne _ _ h1, upd_ne _ _ h2]
 have kf : ∀ b, hb (σ' (fr + 1)) b → ∃ i, r = some i ∧ hb (σ i) b := fun b hbb => by
  rw [s2, hb_fam] at hbb
  obtain ⟨q, hq, hqb⟩ := hbb
  exact hvs q (by simpa using hq) b hqb
 have lt : ∀ b i, r = some i → hb (σ i) b → b < w.heap.size := fun b i e hbb => repB_lt (h.blk i) (hr i e).1 b hbb
 obtain ⟨k1, k2⟩ := h.step (σ' := σ') (N' := Nx N fr) (m' := m') (w' := w') (fun i => r = some i ∨ i = fr ∨ i = fr + 1) (fun i k => k.1)
  (fun i k => by
    have h1 : i ≠ fr := fun e => k.2 ⟨by omega, by omega⟩
    have h2 : i ≠ fr + 1 := fun e => k.2 ⟨by omega, by omega⟩
    rw [m5 i (fun e => (hr i e).2 k.1) h1 h2]; exact h.fresh i k.1)
  (fun i k => by simp only [not_or] at k; exact ⟨m5 i k.1 k.2.1 k.2.2, s3 i k.2.1 k.2.2⟩)
  (fun i k => s3 i (fun e => k (e ▸ n0)) (fun e => k (e ▸ n1)))
  (fun b hb _ => hw.1 b hb) hw.2.2.2.2 hw.2.1 hw.2.2.1 hw.2.2.2.1
  (fun i b hi ho hbb => by
    rcases hi with hi | rfl | rfl
    · rw [m1 i hi] at ho; cases ho
    · rw [s1] at hbb; exact .inl (hvh b hbb)
    · obtain ⟨i, e, g⟩ := kf b hbb
      exact .inr ⟨i, .inl e, (hr i e).1, g⟩)
  (fun i i' b hi hi' ho ho' hb1 hb2 => by
    have kx : hb (σ' fr) b → hb (σ' (fr + 1)) b → False := fun h1 h2 => by
     rw [s1] at h1
     obtain ⟨i, e, g⟩ := kf b h2
     have := lt b i e g
     have := hvh b h1
     omega
    rcases hi with hi | rfl | rfl
    · rw [m1 i hi] at ho; cases ho
    · rcases hi' with hi' | rfl | rfl
      · rw [m1 _ hi'] at ho'; cases ho'
      · rfl
      · exact (kx hb1 hb2).elim
    · rcases hi' with hi' | rfl | rfl
      · rw [m1 _ hi'] at ho'; cases ho'
      · exact (kx hb2 hb1).elim
      · rfl)
  (fun i hi => by
    rcases hi with hi | rfl | rfl
    · rw [s3 i (fun e => nr0 (by rw [hi, e])) (fun e => nr1 (by rw [hi, e]))]; exact h.hone _
    · rw [s1]; exact h1
    · rw [s2]; rfl)
  (fun hk i hi => by
    rcases hi with hi | rfl | rfl
    · rw [m1 i hi]; trivial
    · rw [m4]
      refine ⟨.func 0, vs.toArray, flat, fun k => k.2 ⟨by omega, by omega⟩, s2, by simpa using hlen, by simp only [rx]; rw [s1]; exact hrow, ?_⟩
      simp only [List.toList_toArray, holed]
      exact roAll_mono (elG_keep hk.k) _ _ hel
    · rw [m3]
      refine ⟨.func 0, vs.toArray, s2, ?_⟩
      simp only [List.toList_toArray]
      exact famRep_keep hk hfam (fun u hu b hbu => hw.1 b (famRep_lt hfam u hu b hbu)))
 refine ⟨σ', ?_, ?_, ?_, hq⟩
 · simp only [hm']; exact k1
 · simp only [hm']; exact k2
 · simp only [hm']; exact hav _ (fun k => k.2 ⟨by omega, by omega⟩) s1

theorem fam_nils {x : Rx} {e : TypeId} {u : Ty} (n : Nat) : famRep x e u (List.replicate n []) (List.replicate n (.slice none 0 0)) := by
 refine ⟨by simp, fun i xs v h1 h2 => ?_, fun i j u v b h1 h2 h3 => ?_⟩
 · rw [List.getElem?_replicate] at h1 h2
   split at h1
   · rename_i hi
     rw [if_pos hi] at h2
     cases h1; cases h2
     exact ⟨rfl, [], rowR_none _ _ _ _, rfl⟩
   · cases h1
 · rw [List.getElem?_replicate] at h1
   split at h1
   · cases h1; cases h3
   · cases h1
theorem fam_single {x : Rx} {e : TypeId} {u : Ty} {ys : List u.den} {v : Value} {flat : List Value} (h1 : v.oneCell' = true) (h2 : RowR x.w e u.n v ys.length flat) (h3 : roAll (ro x.w x.O u) ys flat) : famRep x e u [ys] [v] := by
 refine ⟨rfl, fun i xs q g1 g2 => ?_, fun i j a b c g1 g2 _ _ => ?_⟩
 · match i, g1, g2 with
   | 0, g1, g2 => cases g1; cases g2; exact ⟨h1, flat, h2, h3⟩
   | i + 1, g1, _ => cases g1
 · have e1 := (List.getElem?_eq_some_iff.1 g1).1
   have e2 := (List.getElem?_eq_some_iff.1 g2).1
   simp at e1 e2; omega

/-- No rows with rows. -/
theorem s_nilG (h : RepM cx σ N m w) (hfr : ∀ id, fr ≤ id → id < fr + 32 → N id) {e e2 : TypeId} {t : Ty} {r : Option (Nat × Ty)} (hp : (nilG e2 fr e t r).pre) : Res cx σ N m w fr (nilG e2 fr e t r) (.slice none 0 0) w := by
 cases r with
 | none => exact hp.elim
 | some r =>
   have := mk_rowg (cx := cx) (σ := σ) (m := m) (w := w) (w' := w) (r := none) (e := e) (e2 := e2) (t := t) (u := r.2) (p := r.1) (xs := []) (xss := []) (vs := []) (v := .slice none 0 0) (v' := .slice none 0 0) (flat := []) (av := .one (.row fr)) (pr := True) (q := True) h hfr (fun i e => by cases e)
    (fam_nils 0) (fun v hv => by cases hv) rfl (fun b hb => by rw [hb_slice] at hb; cases hb) (same_world w) rfl (rowR_none _ _ _ _) rfl (fun x h1 h2 => by unfold repA repC; exact ⟨h1, h2.symm⟩) trivial
   exact this

theorem zTyN_sl {x : Rx} {v : Ty} : ∀ (n : Nat) (cs : List Value), zTyN (.sl v) n cs → roAll (elG x (.sl v) 0) ((List.replicate n ([] : List v.den)).zip ((List.replicate n (Value.slice none 0 0)).map some)) cs
 | 0, _, h => h
 | n + 1, _, ⟨c, d, e, h1, h2⟩ => by
   have hc : c = [.slice none 0 0] := h1
   subst hc
   refine ⟨_, d, e, ⟨by simp, fun v hv => by cases hv; rfl, fun u hu => by simp at hu; rw [hu]; rfl, ?_⟩, zTyN_sl n d h2⟩
   exact ⟨none, 0, 0, rfl, rfl, Nat.le_refl _, by simp [maxLen], .inl rfl⟩

/-- An array of nil slices that will be rows. -/
theorem s_allocG (h : RepM cx σ N m w) (hfr : ∀ id, fr ≤ id → id < fr + 32 → N id) {t : TypeId} (ho : o.op = .alloc t) (ht : TabOK P T) {n : Nat} {e e2 : TypeId} {u : Ty} (hd : (TI.of T t).desc = .array n e u) (hp : (allocG e2 fr t n u).pre) :
 Runs P w (Res cx σ N m w fr (allocG e2 fr t n u)) ((execOp ρ o).run P w) := by
 have htt := TI.of_ok ht t (fun e => by rw [e] at hd; cases hd)
 obtain ⟨hu, hn0, hnm, hun, i, z, hi, hz, hzt⟩ := htt.arr n e u hd
 cases u with
 | sl v =>
   have hrun : (execOp ρ o).run P w = .ok (.value (.pointer (some ⟨w.heap.size, 0, none⟩))) (w.alloc (.cells z.cells.toList.toArray t)) := by
    simp [execOp, ho, Instr.alloc, run_zeroValue hi hz, newVar, newRow]
   have hlen : z.cells.toList.length = n * (Ty.sl v).n := by
    have := roAll_len (fun x c => ro_len (.sl v) x c) _ _ (zTyN_ro (w := w) (O := fun _ => False) n _ hzt)
    rwa [List.length_replicate] at this
   refine runs_value hrun ?_
   have := mk_rowg (cx := cx) (σ := σ) (m := m) (w := w) (r := none) (e := t) (e2 := e2) (t := .sl v) (u := v) (p := 0) (xs := List.replicate n []) (xss := List.replicate n []) (vs := List.replicate n (.slice none 0 0)) (v := .slice (some ⟨w.heap.size, 0, none⟩) n n) (v' := .pointer (some ⟨w.heap.size, 0, none⟩)) (flat := z.cells.toList) (av := .one (.ep fr 1 0 0)) (pr := True) (q := True) h hfr (fun i e => by cases e)
    (fam_nils n) (fun v hv b hb => by rw [List.mem_replicate] at hv; rw [hv.2] at hb; cases hb) rfl (fun b hb => by rw [hb_slice, blkOf_slice hn0] at hb; simp at hb; omega) (alloc_world w (.cells z.cells.toList.toArray t)) (by simp)
    (by rw [List.length_replicate]; exact rowR_of hlen (heap_alloc_new w _) (Nat.le_refl _) hnm (by simp only [List.size_toArray]; exact hlen) (by rw [List.take_of_length_le (by simp only [List.toList_toArray]; omega)])) (zTyN_sl n _ hzt) (fun x h1 h2 => by
      unfold repA repC; exact ⟨h1, w.heap.size, n, n, h2, by simp⟩) trivial
   exact this
 | _ => exact hp.elim
end
end Go.Ev

/- Rows whose elements have rows: a field is written; a row of one element; append. -/
set_option linter.unusedSimpArgs false
set_option linter.unusedVariables false
namespace Go.Ev

section
variable {cx : Cx} {σ : Nat → Value} {N : Nat → Prop} {m : Mem} {w : World} {P : Program} {T : Tab} {G : Env} {o : Oper} {fr : Nat} {ρ : Operand → Value} {av : Operand → AV}

theorem over_set {α : Type} {c us : List α} {p off : Nat} {z : α} (hf : off + us.length ≤ c.length) (h : p < off ∨ off + us.length ≤ p) (hp : p < c.length) :
 (c.take off ++ us ++ c.drop (off + us.length)).set p z = (c.set p z).take off ++ us ++ (c.set p z).drop (off + us.length) ∧ (c.take off ++ us ++ c.drop (off + us.length))[p]? = c[p]? := by
 have hl : (c.take off).length = off := by simp; omega
 rcases h with h | h
 · constructor
   · rw [List.append_assoc, List.set_append_left _ _ (by omega), List.take_set, List.drop_set_of_lt (by omega), List.append_assoc]
   · rw [List.append_assoc, List.getElem?_append_left (by omega), List.getElem?_take_of_lt h]
 · constructor
   · rw [List.set_append_right _ _ (by simp; omega), List.take_set, List.set_eq_of_length_le (l := c.take off) (by omega), List.drop_set, if_neg (by omega)]
     congr 2
     simp only [List.length_append, hl]
   · rw [List.getElem?_append_right (by simp; omega), List.getElem?_drop]
     simp only [List.length_append, hl]
     congr 1; omega

/-- A field without lists is written. -/
theorem s_putG (h : RepM cx σ N m w) {id sz fid off p : Nat} {i : Int} {e : TypeId} {t' : Ty} {xs : List t'.den} {t : TypeId} {x y : Operand} {a : AV} (ho : o.op = .store t x y) (ht : TabOK P T) (hm : m id = .rowg e t' p fid xs none) (hx : repC (rx cx σ N m w) (.ep id sz i off) (ρ x)) (hy : repA (rx cx σ N m w) a (ρ y))
 (hp : (putG m (TI.of T t) a.cells id sz i off e t' p fid xs).pre) : Runs P w (Res cx σ N m w fr (putG m (TI.of T t) a.cells id sz i off e t' p fid xs)) ((execOp ρ o).run P w) := by
 unfold putG at hp ⊢
 split at hp
 · rename_i hc
   rw [if_pos hc]
   obtain ⟨hpos, hl, hfit, rfl, hpo, hrw, hka⟩ := hc
   split at hp
   · rename_i y' him
     obtain ⟨hi0, hi1⟩ := hp
     have hi : i.toNat < xs.length := by omega
     have htt := TI.of_ok ht t (TI_ne (by omega))
     obtain ⟨ii, hii, hs, _⟩ := htt.info
     unfold repC at hx
     obtain ⟨hn, b, n, cp, e1, e2⟩ := hx
     simp only [rx] at e1 hn
     have hne : a.cells ≠ [] := fun e => by rw [e] at hl; simp at hl; omega
     have hac := cells_of (x := rx cx σ N m w) h.hone hy hka hne
     have hal := repCs_len _ _ hac
     have h1a := known_all h.hone _ _ hka hac
     have hb := h.blk id
     rw [hm] at hb
     obtain ⟨f, vs, flat, b1, b2, b3, b4, b5⟩ := hb
     simp only [rx] at b1 b2 b4
     obtain ⟨pre, c0, post, f1, f3, f4, f5, f6⟩ := elG_at b5 (by rw [holed_len]; exact b3) hi
     have hlc : c0.length = t'.n := elG_len _ _ f4
     rw [e1] at b4
     obtain ⟨w', hst, w1, w2, w3, w4, w5, w6, w7⟩ := rowR_store (P := P) b4 (by omega) hii (off := i.toNat * t'.n + off) (v := ρ y) (by rw [← Array.length_toList, hal, hl, hs]) h1a (by
      rw [f1, hs]; simp only [List.length_append]; omega)
     have hul : (ρ y).cells.toList.length = (TI.of T t).size := by rw [hal, hl]
     have hov : flat.take (i.toNat * t'.n + off) ++ (ρ y).cells.toList ++ flat.drop (i.toNat * t'.n + off + (ρ y).cells.toList.length) = pre ++ ((c0.take off ++ (ρ y).cells.toList ++ c0.drop (off + (ρ y).cells.toList.length)) ++ post) := by
      rw [f1, ← f3]
      exact over_mid pre c0 post (ρ y).cells.toList off (by omega)
     rw [hov] at w7
     have hrun : (execOp ρ o).run P w = .ok .skip w' := by
      simp only [execOp, ho, Instr.storeAt, Instr.sureAddr, e2, Sem.run_bind, Sem.run_pure, Result.andThen_ok, hst]
     obtain ⟨o1, o2⟩ := over_set (c := c0) (us := (ρ y).cells.toList) (p := p) (off := off) (z := .slice none 0 0) (by omega) (by omega) f4.1
     have hex : ∀ (t : Ty) (y : t.den), rowsOf (expl t y) = [] := by
      intro t
      induction t with
      | pair a b iha ihb => intro y; simp [expl, rowsOf_append, iha, ihb]
      | _ => intro y; rfl
     have hno : ∀ id ∈ rowsOf (overC (expl t' (xs.getD i.toNat t'.dflt)) off a.cells), own (m id) = false := fun id hid => by
      unfold overC at hid
      rw [rowsOf_append, rowsOf_append, hrw] at hid
      simp only [List.mem_append] at hid
      rcases hid with (hid | hid) | hid
      · have := rowsOf_take_mem hid; rw [hex] at this; cases this
      · cases hid
      · have := rowsOf_drop_mem hid; rw [hex] at this; cases this
     have hr := f4.2.2.2
     rw [← getD_eq xs i.toNat t'.dflt hi] at hr
     have hnew := impl_ro h t' _ y' _ him (repCs_over (expl_rep (x := rx cx σ N m w) t' _ _ hr) hac) hno
     obtain ⟨g1, g2⟩ := h.write hn (.rowg e t' p fid (xs.set i.toNat y') none) (b := b) (by rw [e1]; exact w6) (by rw [hm]; rfl) (w' := w') w1 w2 w3 w4 w5 (fun hk => by
      refine ⟨f, vs, _, b1, b2, by rw [List.length_set]; exact b3, by simp only [rx]; rw [e1, List.length_set]; exact w7, ?_⟩
      have hz : (xs.set i.toNat y').zip (holed vs.toList none) = (xs.zip (holed vs.toList none)).set i.toNat (y', (holed vs.toList none)[i.toNat]'(by rw [holed_len]; omega)) := by
       rw [← zip_set2, set_self]
      rw [hz]
      refine roAll_set (by rw [List.length_zip, holed_len]; omega) (roAll_mono (elG_keep hk.k) _ _ f5) (elG_keep hk.k _ _ ?_) (roAll_mono (elG_keep hk.k) _ _ f6)
      refine ⟨by simp only [List.length_append, List.length_take, List.length_drop]; have := f4.1; omega, fun v hv => by rw [o2]; exact f4.2.1 v hv, fun q hq => ?_, by rw [o1]; exact hnew⟩
      simp only [List.mem_append] at hq
      rcases hq with (hq | hq) | hq
      · exact f4.2.2.1 q (List.mem_of_mem_take hq)
      · exact h1a q hq
      · exact f4.2.2.1 q (List.mem_of_mem_drop hq))
     obtain ⟨g3, g4⟩ := g1.weaken (N' := Nx N fr) (fun _ k => k.1)
     exact runs_skip hrun ⟨σ, g3, ⟨g2.k.trans g4.k (by simp only [rx]; exact w2.1), fun _ _ => rfl, fun _ k => k.1⟩, by unfold repA repC; trivial, trivial⟩
   · exact hp.elim
 · exact hp.elim

theorem s_storeU (h : RepM cx σ N m w) {t : TypeId} {x y : Operand} (ho : o.op = .store t x y) (ht : TabOK P T) (hU : isU (TI.of T t) = true) {c : C1} {v : AV} (hx : repA (rx cx σ N m w) (.one c) (ρ x)) (hy : repA (rx cx σ N m w) v (ρ y))
 (hp : (storeU v c).pre) : Runs P w (Res cx σ N m w fr (storeU v c)) ((execOp ρ o).run P w) := by
 unfold storeU at hp ⊢
 split at hp
 · rename_i id off
   unfold repA at hx hy
   unfold repC at hx
   obtain ⟨hn, b, q1, q2⟩ := hx
   obtain ⟨vs, q3, q4⟩ := hy
   have q5 := repCs_nil.1 q4
   subst q5
   obtain ⟨i, hi, hs, hz⟩ := isU_zero ht hU
   have hrun : (execOp ρ o).run P w = .ok .skip w := by
    simp [execOp, ho, Instr.storeAt, Instr.sureAddr, q2, q3, storeVar, run_sizeOf hi, hs, Value.cells, storeCells]
   obtain ⟨g1, g2⟩ := h.weaken (N' := Nx N fr) (fun _ k => k.1)
   exact runs_skip hrun ⟨σ, g1, g2, by unfold repA repC; trivial, trivial⟩
 · exact hp.elim
theorem s_storeX (h : RepM cx σ N m w) (hfr0 : N fr) {t : TypeId} {x y : Operand} (ho : o.op = .store t x y) (ht : TabOK P T) (hx : repA (rx cx σ N m w) (av x) (ρ x)) (hy : repA (rx cx σ N m w) (av y) (ρ y))
 (hp : (opEff T G o [av x, av y] m fr).pre) : Runs P w (Res cx σ N m w fr (opEff T G o [av x, av y] m fr)) ((execOp ρ o).run P w) := by
 by_cases hU : isU (TI.of T t) = true
 · simp only [opEff, ho, hU, if_true] at hp ⊢
   cases hav : av x with
   | one c =>
     rw [hav] at hx
     simp only [hav] at hp ⊢
     exact s_storeU h ho ht hU hx hy hp
   | _ => simp only [hav] at hp; exact hp.elim
 by_cases hg : ∀ id sz i off, av x = .one (.ep id sz i off) → isG (m id) = false
 · exact s_store h hU hg ho ht hx hy hp
 · have hg : ∃ id sz i off, av x = .one (.ep id sz i off) ∧ isG (m id) = true := by
    apply Classical.byContradiction
    intro hne
    refine hg fun id sz i off e => ?_
    cases hq : isG (m id) with
    | false => rfl
    | true => exact absurd ⟨id, sz, i, off, e, hq⟩ hne
   obtain ⟨id, sz, i, off, e, hq⟩ := hg
   simp only [opEff, ho, e, if_neg hU, storeX, hq, if_true] at hp ⊢
   rw [e] at hx
   unfold repA at hx
   cases hm : m id with
   | rowg e t' p fid xs hole =>
     rw [hm] at hp
     cases hole with
     | none => exact s_putG h ho ht hm hx hy hp
     | some j =>
       simp only [storeG] at hp ⊢
       split at hp
       · rename_i r hav
         split at hp
         · rename_i hc
           rw [if_pos hc]
           obtain ⟨rfl, rfl, hs⟩ := hc
           unfold backG at hp ⊢
           split at hp
           · rename_i e2 u xss e' u' zs0 hf hr
             split at hp
             · rename_i zs hzs
               split at hp
               · rename_i hee
                 try simp only [hzs]
                 rw [if_pos hee]
                 subst hee
                 obtain ⟨hh, rfl⟩ := castTy_eq hzs
                 subst hh
                 obtain ⟨hij, hj⟩ := hp
                 rw [hav] at hy
                 unfold repA repC at hy
                 unfold repC at hx
                 obtain ⟨hn, b, n, c, e1, e2⟩ := hx
                 simp only [rx] at e1 hn hy
                 have htt := TI.of_ok ht t (TI_ne (by omega))
                 obtain ⟨ii, hii, hsi, _⟩ := htt.info
                 obtain ⟨w', hrun, hres⟩ := back_row (P := P) (fr := fr) (t1 := t) (ii := ii) (pr := i = (j : Int) ∧ j < xs.length) (q := True) h hfr0 hn hy.1 hm hf hr hj e1 hii (by omega) trivial
                 have hi2 : i.toNat = j := by omega
                 refine runs_skip (w' := w') ?_ hres
                 rw [hi2] at e2
                 rw [← hy.2] at hrun
                 simp only [execOp, ho, Instr.storeAt, Instr.sureAddr, e2, Sem.run_bind, Sem.run_pure, Result.andThen_ok, hrun]
               · exact hp.elim
             · exact hp.elim
           · exact hp.elim
         · exact hp.elim
       · exact hp.elim
   | _ => rw [hm] at hq; cases hq
end
end Go.Ev

/- Rows whose elements have rows: a row of one element; append. -/
set_option linter.unusedSimpArgs false
set_option linter.unusedVariables false
namespace Go.Ev

section
variable {cx : Cx} {σ : Nat → Value} {N : Nat → Prop} {m : Mem} {w : World} {P : Program} {T : Tab} {G : Env} {o : Oper} {fr : Nat} {ρ : Operand → Value} {av : Operand → AV}

/-- What is put together as a slice, in a new block. -/
theorem run_buildOne {t e : TypeId} {y : Operand} {k : Nat} {i : TypeInfo} {z : Value} (ho : o.op = .buildSlice t 1 #[(0, y)]) (hu : P.underlying t = some (.slice e)) (hi : P.info? e = some i) (hz : i.zero = some z) (hl : (ρ y).cells.size = i.size) (h0 : 0 < i.size) (h16 : i.size ≤ 16777216) :
 (execOp ρ o).run P w = .ok (.value (.slice (some ⟨w.heap.size, 0, none⟩) 1 1)) (w.alloc (.cells (ρ y).cells.toList.toArray e)) := by
 have hfill := fill_seq (size := i.size) (by omega) [ρ y] 0 [] ((Array.range (1 * i.size)).map (z.cells[· % z.cells.size]!)).toList (by simp) (by simp) (fun v hv => by simp at hv; rw [hv]; simp [hl])
 rw [List.nil_append, List.nil_append, Array.toArray_toList] at hfill
 have hpe := zip_range (fun _ => ρ y) [(0, y)] 0 (by simp [List.range'])
 simp [execOp, ho, Instr.buildSlice, run_underlying hu, run_sizeOf hi, show ¬ (i.size = 0) by omega, show ¬ (2 ^ 24 < i.size) by omega, run_zeroValue hi hz, newRow]
 simp [List.range, List.range.loop] at hfill
 try simp [hfill]

theorem repCs_set {x : Rx} : ∀ (cs : List C1) (vs : List Value) (p : Nat) (c : C1) (v : Value), repCs x cs vs → repC x c v → repCs x (cs.set p c) (vs.set p v)
 | [], vs, p, c, v, h, _ => by rw [repCs_nil.1 h]; simp; exact repCs_nil.2 rfl
 | a :: cs, vs, 0, c, v, h, k => by
   obtain ⟨u, r, rfl, h1, h2⟩ := repCs_cons.1 h
   exact repCs_cons.2 ⟨v, r, rfl, k, h2⟩
 | a :: cs, vs, p + 1, c, v, h, k => by
   obtain ⟨u, r, rfl, h1, h2⟩ := repCs_cons.1 h
   exact repCs_cons.2 ⟨u, r.set p v, rfl, h1, repCs_set cs r p c v h2 k⟩
theorem repCs_at {x : Rx} : ∀ (cs : List C1) (vs : List Value) (p : Nat) (c : C1), repCs x cs vs → cs[p]? = some c → ∃ v, vs[p]? = some v ∧ repC x c v
 | [], _, p, c, _, h => by simp at h
 | a :: cs, vs, 0, c, h, k => by
   obtain ⟨u, r, rfl, h1, h2⟩ := repCs_cons.1 h
   simp at k; subst k
   exact ⟨u, rfl, h1⟩
 | a :: cs, vs, p + 1, c, h, k => by
   obtain ⟨u, r, rfl, h1, h2⟩ := repCs_cons.1 h
   obtain ⟨v, h3, h4⟩ := repCs_at cs r p c h2 (by simpa using k)
   exact ⟨v, by simpa using h3, h4⟩

theorem s_bsG (h : RepM cx σ N m w) (hfr : ∀ id, fr ≤ id → id < fr + 32 → N id) {t e : TypeId} {len : Nat} {parts : Array (Nat × Operand)} {md : Nat} (ho : o.op = .buildSlice t len parts) (ht : TabOK P T) (hd : (TI.of T t).desc = .slice e) {a : AV}
 (hav : (parts.toList.map (·.2)).map av = [a]) (hx : ∀ x ∈ parts.toList.map (·.2), repA (rx cx σ N m w) (av x) (ρ x)) (hq : seqIdx (parts.toList.map (·.1)) len (TI.of T e).size 1 = true) (hp : (bsG T md fr e m a).pre) : Runs P w (Res cx σ N m w fr (bsG T md fr e m a)) ((execOp ρ o).run P w) := by
 obtain ⟨y, hy⟩ : ∃ y, parts.toList.map (·.2) = [y] := by
  match hh : parts.toList.map (·.2), hav with
  | [y], _ => exact ⟨y, hh⟩
  | [], hav => rw [hh] at hav; cases hav
  | _ :: _ :: _, hav => rw [hh] at hav; cases hav
 unfold seqIdx at hq
 obtain ⟨c1, c2, c3⟩ := of_decide_eq_true hq
 subst c3
 have hpar : parts = #[(0, y)] := by
  have h1 : parts.toList.map (·.1) = [0] := by rw [c1]; rfl
  have : parts.toList = [(0, y)] := by
   match hh : parts.toList, h1, hy with
   | [(a, b)], h1, hy => simp at h1 hy; rw [h1, hy]
   | [], h1, _ => cases h1
   | _ :: _ :: _, h1, _ => simp at h1
  rw [← Array.toArray_toList (xs := parts), this]
 have hy1 := hx y (by rw [hy]; simp)
 rw [hy] at hav
 have hav : av y = a := by simpa using hav
 rw [hav] at hy1
 subst hpar
 unfold bsG at hp ⊢
 split at hp
 · rename_i u hty
   split at hp
   · rename_i p v hsl
     split at hp
     · rename_i hc
       rw [if_pos hc]
       obtain ⟨hl, hka, hro⟩ := hc
       have hu := (TI.of_ok ht t (fun e => by rw [e] at hd; cases hd)).slice e hd
       have hte := TI.of_ok ht e (fun k => by rw [k] at hty; cases hty)
       obtain ⟨i, hi, hs, hby, z, hz, hzs, _⟩ := hte.info
       obtain ⟨hun, hpos, _⟩ := hte.ty u hty
       have hne : a.cells ≠ [] := fun e => by rw [e] at hl; simp at hl; omega
       have hac := cells_of (x := rx cx σ N m w) h.hone hy1 hka hne
       have hal := repCs_len _ _ hac
       have h1a := known_all h.hone _ _ hka hac
       have hplt := slAt_lt hsl
       have hrun := run_buildOne (k := 0) (w := w) ho hu hi hz (by rw [← Array.length_toList, hal, hl, hs]) (by omega) (by omega)
       have hlen : (ρ y).cells.toList.length = u.n := by rw [hal, hl]; exact hun.symm
       have hcp : a.cells[p]? = some (a.cells.getD p .undef) := by rw [List.getD_eq_getElem?_getD, List.getElem?_eq_getElem (by omega)]; rfl
       obtain ⟨v0, hv0, hrv⟩ := repCs_at _ _ p _ hac hcp
       have hno : ∀ cs : List C1, rowsOf cs = [] → ∀ id ∈ rowsOf cs, own (m id) = false := fun cs hcs id hid => by rw [hcs] at hid; cases hid
       have mk : ∀ (r : Option Nat) (ys : List v.den) (x : u.den), (∀ i, r = some i → own (m i) = true ∧ ¬ N i) → famRep (rx cx σ N m w) (md - 8) v [ys] [v0] → (∀ b, blkOf v0 = some b → ∃ i, r = some i ∧ hb (σ i) b) → ro w (Owned cx σ m) u x ((ρ y).cells.toList.set p (.slice none 0 0)) →
        Res cx σ N m w fr ⟨True, .one (.row fr), killH r ++ [(fr + 1, .fam (md - 8) v [ys]), (fr, .rowg e u p (fr + 1) [x] none)], True⟩ (.slice (some ⟨w.heap.size, 0, none⟩) 1 1) (w.alloc (.cells (ρ y).cells.toList.toArray e)) := by
        intro r ys x hr hfam hbv hro'
        refine mk_rowg (cx := cx) (σ := σ) (m := m) (w := w) (r := r) (vs := [v0]) (v := .slice (some ⟨w.heap.size, 0, none⟩) 1 1) (flat := (ρ y).cells.toList) h hfr hr hfam (fun q hq b hb => by simp at hq; rw [hq] at hb; exact hbv b hb) rfl (fun b hb => by rw [hb_slice, blkOf_slice (by omega)] at hb; simp at hb; omega)
         (alloc_world w (.cells (ρ y).cells.toList.toArray e)) rfl (rowR_of (by simpa using hlen) (heap_alloc_new w _) (Nat.le_refl _) (by simp [maxLen]) (by simp only [List.size_toArray, Nat.one_mul]; exact hlen) (by rw [List.take_of_length_le (by simp only [List.toList_toArray, List.length_singleton, Nat.one_mul]; omega)])) ?_ (fun x h1 h2 => by unfold repA repC; exact ⟨h1, h2.symm⟩) trivial
        exact ⟨(ρ y).cells.toList, [], by simp, ⟨by omega, fun q hq => by cases hq; exact hv0, h1a, hro'⟩, rfl⟩
       unfold oneG at hp ⊢
       split at hp
       · rename_i hnil
         rw [hnil] at hrv hcp
         unfold repC at hrv
         subst hrv
         split at hp
         · rename_i x him
           refine runs_value hrun ?_
           have hcs : a.cells.set p .nilsl = a.cells := by
            apply List.ext_getElem?
            intro j
            rw [List.getElem?_set]
            split
            · rename_i e; subst e; rw [if_pos (by omega)]; exact hcp.symm
            · rfl
           rw [hcs] at hro
           have hset : (ρ y).cells.toList.set p (.slice none 0 0) = (ρ y).cells.toList := by
            apply List.ext_getElem?
            intro j
            rw [List.getElem?_set]
            split
            · rename_i e; subst e; rw [if_pos (by omega)]; exact hv0.symm
            · rfl
           exact mk none [] x (fun i e => by cases e) (fam_nils 1) (fun b hb => by cases hb) (by rw [hset]; exact impl_ro h u _ _ _ him hac (hno _ hro))
         · exact hp.elim
       · rename_i r hcr
         rw [hcr] at hrv
         unfold repC at hrv
         obtain ⟨hnr, rfl⟩ := hrv
         simp only [rx] at hnr
         split at hp
         · rename_i e' u' ys0 hm
           split at hp
           · rename_i x ys him hcast
             split at hp
             · rename_i hee
               rw [if_pos hee]
               subst hee
               obtain ⟨hh, rfl⟩ := castTy_eq hcast
               subst hh
               refine runs_value hrun ?_
               have hb := h.blk r
               rw [hm] at hb
               obtain ⟨n0, fl, rfl, d1, d2⟩ := hb
               simp only [rx] at d1 d2
               have hnil : repC (rx cx σ N m w) .nilsl (.slice none 0 0) := by unfold repC; rfl
               exact mk (some r) ys0 x (fun i e => by cases e; exact ⟨by rw [hm]; rfl, hnr⟩) (fam_single (h.hone r) d1 d2) (fun b hb => ⟨r, rfl, .inl hb⟩) (impl_ro h u _ _ _ him (repCs_set _ _ p _ _ hac hnil) (hno _ hro))
             · exact hp.elim
           · exact hp.elim
         · exact hp.elim
       · exact hp.elim
     · exact hp.elim
   · exact hp.elim
 · exact hp.elim
end
end Go.Ev
