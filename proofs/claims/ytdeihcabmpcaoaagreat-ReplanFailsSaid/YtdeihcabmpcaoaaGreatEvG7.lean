/- Rows whose elements have rows: append. -/
import Derived.Test.YtdeihcabmpcaoaaGreatEvG3ToG6
set_option linter.unusedSimpArgs false
set_option linter.unusedVariables false
namespace Go.Ev

section
variable {cx : Cx} {σ : Nat → Value} {N : Nat → Prop} {m : Mem} {w : World} {P : Program} {T : Tab} {G : Env} {o : Oper} {fr : Nat} {ρ : Operand → Value} {av : Operand → AV}

/-- An own row's cells are appended to an own row. -/
theorem append_rows {st ty e : TypeId} {i : TypeInfo} {z : Value} {s : Nat} (hst : P.underlying st = some (.slice e)) (hi : P.info? e = some i) (hz : i.zero = some z) (hzs : z.cells.size = i.size) (hsz : i.size = s) (hpos : 0 < s)
 {vb vx : Value} {n k : Nat} {flat flatx : List Value} (kb : RowR w e s vb n flat) (kx : RowR w e s vx k flatx) (h1 : ∀ u ∈ flatx, u.oneCell' = true) (hk : 0 < k) (hb : (n + k) * i.bytes ≤ 140737488355328) (hm63 : n + k ≤ maxLen) :
 ∃ r w', (Builtin.append_ #[st, st] ty #[vb, vx]).run P w = .ok r w' ∧ r.oneCell' = true ∧ (∃ a n c, r = .slice a n c) ∧ RowR w' e s r (n + k) (flat ++ flatx) ∧ (∀ b, b < w.heap.size → blkOf vb ≠ some b → w'.heap[b]? = w.heap[b]?) ∧
   (∀ b, blkOf r = some b → w.heap.size ≤ b ∨ blkOf vb = some b) ∧ w'.os = w.os ∧ w'.tape = w.tape ∧ w'.output = w.output ∧ w.heap.size ≤ w'.heap.size ∧ w.drawn ≤ w'.drawn := by
 obtain ⟨hlx, kx2⟩ := kx
 rcases kx2 with ⟨q, _⟩ | ⟨gx, capx, curx, hzx, rfl, hgx, hlcx, hcmx, hcsx, htkx⟩
 · omega
 have hcx : ∀ j u, flatx[j]? = some u → w.cell? ⟨gx, 0 + j, none⟩ = some u := fun j u hu => by
  rw [Nat.zero_add]
  exact rowR_cells (e := e) (size := s) (n := k) (v := .slice (some ⟨gx, 0, none⟩) k capx) ⟨hlx, .inr ⟨gx, capx, curx, hzx, rfl, hgx, hlcx, hcmx, hcsx, htkx⟩⟩ (blkOf_slice hzx) j u hu
 obtain ⟨hl, kb2⟩ := kb
 have h63 : ((n + k : Nat) : Int) ≤ 9223372036854775807 := by simp only [maxLen] at hm63; omega
 have fin : ∀ old, old < n + k → RowR (w.drew.alloc (.cells (flat.toArray ++ flatx.toArray ++ Builtin.zeroCells z.cells (grownCap w (n + k) old e - (n + k))) e)) e s (.slice (some ⟨w.heap.size, 0, none⟩) (n + k) (grownCap w (n + k) old e)) (n + k) (flat ++ flatx) := by
  intro old ho
  have hge := grownCap_ge w (n + k) old e
  have hcm := grownCap_le_maxLen w (n + k) old e hm63
  have hlen : (flat ++ flatx).length = (n + k) * s := by rw [List.length_append, hl, hlx, Nat.add_mul]
  refine rowR_of hlen (heap_alloc_new w.drew _) hge hcm ?_ ?_
  · simp only [Array.size_append, List.size_toArray, size_zeroCells, hzs, hl, hlx, hsz, ← Nat.add_mul]
    congr 1
    omega
  · rw [← hlen]
    simp only [Array.toList_append, List.append_assoc]
    rw [← List.append_assoc]
    exact List.take_left
 have hgw := fun old => grown_world w (.cells (flat.toArray ++ flatx.toArray ++ Builtin.zeroCells z.cells (grownCap w (n + k) old e - (n + k))) e)
 have out : ∀ old, old < n + k → ∀ run, run = Result.ok (Value.slice (some ⟨w.heap.size, 0, none⟩) (n + k) (grownCap w (n + k) old e)) (w.drew.alloc (.cells (flat.toArray ++ flatx.toArray ++ Builtin.zeroCells z.cells (grownCap w (n + k) old e - (n + k))) e)) →
  ∃ r w', run = .ok r w' ∧ r.oneCell' = true ∧ (∃ a n c, r = .slice a n c) ∧ RowR w' e s r (n + k) (flat ++ flatx) ∧ (∀ b, b < w.heap.size → blkOf vb ≠ some b → w'.heap[b]? = w.heap[b]?) ∧
  (∀ b, blkOf r = some b → w.heap.size ≤ b ∨ blkOf vb = some b) ∧ w'.os = w.os ∧ w'.tape = w.tape ∧ w'.output = w.output ∧ w.heap.size ≤ w'.heap.size ∧ w.drawn ≤ w'.drawn := by
  intro old ho run hr
  refine ⟨_, _, hr, rfl, ⟨_, _, _, rfl⟩, fin old ho, fun b hb _ => (hgw old).1 b hb, fun b hbb => ?_, (hgw old).2.1, (hgw old).2.2.1, (hgw old).2.2.2.1, (hgw old).2.2.2.2.1, (hgw old).2.2.2.2.2⟩
  have hge := grownCap_ge w (n + k) old e
  rw [blkOf_slice (by omega)] at hbb
  simp only [Option.some.injEq] at hbb
  exact .inl (by omega)
 rcases kb2 with ⟨rfl, a0, rfl⟩ | ⟨g, cap, cur, hz0, rfl, hg, hlc, hcm, hcs, htk⟩
 · have hf0 : flat = [] := List.eq_nil_of_length_eq_zero (by rw [hl, Nat.zero_mul])
   subst hf0
   cases a0 with
   | none =>
     have hr := run_append_nil (P := P) w st ty e i z hst hi hz ⟨gx, 0, none⟩ k capx flatx (by rw [hlx, hsz]) (fun j v hv => by rw [add_none]; exact hcx j v hv) hk (by omega) (by rw [Nat.zero_add] at hb; omega)
     refine out 0 (by omega) _ ?_
     rw [hr]
     simp
   | some ab =>
     have hr := run_append_grow (P := P) w st ty e i z hst hi hz ab 0 0 [] (by simp) (fun j v hv => by simp at hv) ⟨gx, 0, none⟩ k capx flatx (by rw [hlx, hsz]) (fun j v hv => by rw [add_none]; exact hcx j v hv) (by omega) h63 (growslice_fits (by omega) hb)
     exact out 0 (by omega) _ hr
 · by_cases hroom : n + k ≤ cap
   · have hcz : cur.size = cur.toList.length := by simp
     have hfit : n * i.size + flatx.length ≤ cur.size := by
      rw [hlx, hcs, hsz, ← Nat.add_mul]; exact Nat.mul_le_mul_right _ hroom
     have hr := run_append_room (P := P) w st ty e i hst hi g n cap cur hg ⟨gx, 0, none⟩ k capx flatx (by rw [hlx, hsz]) (fun j v hv => by rw [add_none]; exact hcx j v hv) h1 hroom hfit
     refine ⟨_, _, hr, rfl, ⟨_, _, _, rfl⟩, ?_, fun b _ hb => setRow_other w g b _ (fun e => hb (by rw [e]; exact blkOf_slice hz0)), fun b hbb => .inr (by rw [blkOf_slice hz0] at hbb ⊢; exact hbb), rfl, rfl, rfl, by simp, Nat.le_refl _⟩
     have hlen : (n + k) * s = (flat ++ flatx).length := by rw [List.length_append, hl, hlx, Nat.add_mul]
     refine ⟨hlen.symm, .inr ⟨g, cap, _, hz0, rfl, setRow_heap w g cur _ e (0, 0) hg, hroom, hcm, ?_, ?_⟩⟩
     · rw [← hcs, List.size_toArray, List.length_append, List.length_append, List.length_take, List.length_drop]; omega
     · rw [hlen, hsz, htk]
       show List.take _ (flat ++ flatx ++ _) = _
       exact List.take_left
   · have hr := run_append_grow (P := P) w st ty e i z hst hi hz ⟨g, 0, none⟩ n cap flat (by rw [hl, hsz]) (fun j v hv => by rw [add_none, Nat.zero_add]; exact rowR_cells (e := e) (size := s) (n := n) (v := .slice (some ⟨g, 0, none⟩) n cap) ⟨hl, .inr ⟨g, cap, cur, hz0, rfl, hg, hlc, hcm, hcs, htk⟩⟩ (blkOf_slice hz0) j v hv) ⟨gx, 0, none⟩ k capx flatx (by rw [hlx, hsz]) (fun j v hv => by rw [add_none]; exact hcx j v hv) (by omega) h63 (growslice_fits (by omega) hb)
     exact out cap (by omega) _ hr

theorem s_catG (h : RepM cx σ N m w) (hfr : ∀ id, fr ≤ id → id < fr + 32 → N id) (ht : TabOK P T) {st ty e : TypeId} {b : C1} {id2 p fid2 : Nat} {t : Ty} {ys : List t.den} {vb vx : Value} (hd : (TI.of T st).desc = .slice e) (hty : (TI.of T e).ty = some t) (hm2 : m id2 = .rowg e t p fid2 ys none) (hn2 : ¬ N id2) (hvx : vx = σ id2)
 (hb : repC (rx cx σ N m w) b vb) (hp : (catG T fr id2 e t p fid2 ys (m fid2) m b).pre) :
 ∃ r w', (Builtin.append_ #[st, st] ty #[vb, vx]).run P w = .ok r w' ∧ Res cx σ N m w fr (catG T fr id2 e t p fid2 ys (m fid2) m b) r w' := by
 have hst := (TI.of_ok ht st (fun k => by rw [k] at hd; cases hd)).slice e hd
 have hte := TI.of_ok ht e (fun k => by rw [k] at hty; cases hty)
 obtain ⟨ii, hii, hs, hby, z, hz, hzs, _⟩ := hte.info
 obtain ⟨hun, hpos, hbp⟩ := hte.ty t hty
 unfold catG at hp ⊢
 split at hp
 · rename_i id
   unfold repC at hb
   obtain ⟨hn, hvb⟩ := hb
   simp only [rx] at hn hvb
   split at hp
   · rename_i e' t' p' fid xs hm
     split at hp
     · rename_i e2 u xss e3 u3 yss hf hf2
       split at hp
       · rename_i hc
         rw [dif_pos hc]
         obtain ⟨rfl, rfl, rfl, rfl, rfl, hne, hnf⟩ := hc
         simp only at hp ⊢
         obtain ⟨hy0, hbd⟩ : 0 < ys.length ∧ (xs.length + ys.length) * (TI.of T e').bytes ≤ 140737488355328 := hp
         have hbid := h.blk id
         rw [hm] at hbid
         obtain ⟨f, vs, flat, b1, b2, b3, b4, b5⟩ := hbid
         simp only [rx] at b1 b2 b4
         have hbid2 := h.blk id2
         rw [hm2] at hbid2
         obtain ⟨f', vs', flatx, b1', b2', b3', b4', b5'⟩ := hbid2
         simp only [rx] at b1' b2' b4'
         have hbf := h.blk fid
         rw [hf] at hbf
         obtain ⟨f0, vs0, c1, c2⟩ := hbf
         simp only [rx] at c1
         rw [b2] at c1
         cases c1
         have hbf2 := h.blk fid2
         rw [hf2] at hbf2
         obtain ⟨f1, vs1, c1', c2'⟩ := hbf2
         simp only [rx] at c1'
         rw [b2'] at c1'
         cases c1'
         have hone' : ∀ q ∈ flatx, q.oneCell' = true := fun q hq => roAll_one _ _ b5' (fun x c hh => hh.2.2.1) q hq
         have hbound : xs.length + ys.length ≤ maxLen := by
          have := Nat.le_mul_of_pos_right (xs.length + ys.length) hbp
          simp only [maxLen]; omega
         obtain ⟨r, w', hrun, r1, r2, r3, r4, r5, r6, r7, r8, r9, r10⟩ := append_rows (P := P) (ty := ty) hst hii hz (by omega) (by omega) (by omega) b4 b4' hone' hy0 (by rw [hby]; exact hbd) hbound
         refine ⟨r, w', by rw [hvb, hvx]; exact hrun, ?_⟩
         have n0 : N fr := hfr fr (by omega) (by omega)
         have n1 : N (fr + 1) := hfr (fr + 1) (by omega) (by omega)
         have oid : own (m id) = true := by rw [hm]; rfl
         have oid2 : own (m id2) = true := by rw [hm2]; rfl
         have ofid : own (m fid) = true := by rw [hf]; rfl
         have ofid2 : own (m fid2) = true := by rw [hf2]; rfl
         have d1 : id ≠ fr := fun k => hn (k ▸ n0)
         have d2 : id ≠ fr + 1 := fun k => hn (k ▸ n1)
         have d3 : id2 ≠ fr := fun k => hn2 (k ▸ n0)
         have d4 : id2 ≠ fr + 1 := fun k => hn2 (k ▸ n1)
         have d5 : fid ≠ fr := fun k => b1 (k ▸ n0)
         have d6 : fid ≠ fr + 1 := fun k => b1 (k ▸ n1)
         have d7 : fid2 ≠ fr := fun k => b1' (k ▸ n0)
         have d8 : fid2 ≠ fr + 1 := fun k => b1' (k ▸ n1)
         have d9 : fr + 1 ≠ fr := by omega
         have g1 : id ≠ fid := fun k => by rw [k, hf] at hm; cases hm
         have g2 : id ≠ fid2 := fun k => by rw [k, hf2] at hm; cases hm
         have g3 : id2 ≠ fid := fun k => by rw [k, hf] at hm2; cases hm2
         have g4 : id2 ≠ fid2 := fun k => by rw [k, hf2] at hm2; cases hm2
         let m' : Mem := upd (upd (upd (upd (upd (upd m id2 .dead) fid2 .dead) id .dead) fid .dead) (fr + 1) (.fam e3 u3 (xss ++ yss))) fr (.rowg e' t' p' (fr + 1) (xs ++ ys) none)
         let σ' : Nat → Value := upd (upd σ (fr + 1) (.func (.func 0) #[] (vs.toList ++ vs'.toList).toArray)) fr r
         have m0 : m' fr = .rowg e' t' p' (fr + 1) (xs ++ ys) none := upd_same _ _ _
         have m1 : m' (fr + 1) = .fam e3 u3 (xss ++ yss) := by simp only [m']; rw [upd_ne _ _ d9, upd_same]
         have m2 : ∀ i, (i = id ∨ i = id2 ∨ i = fid ∨ i = fid2) → m' i = .dead := fun i hi => by
          simp only [m']
          rw [upd_ne _ _ (by rcases hi with e | e | e | e <;> rw [e] <;> assumption), upd_ne _ _ (by rcases hi with e | e | e | e <;> rw [e] <;> assumption)]
          by_cases q1 : i = fid
          · rw [q1, upd_same]
          · rw [upd_ne _ _ q1]
            by_cases q2 : i = id
            · rw [q2, upd_same]
            · rw [upd_ne _ _ q2]
              by_cases q3 : i = fid2
              · rw [q3, upd_same]
              · rw [upd_ne _ _ q3]
                have : i = id2 := by rcases hi with e | e | e | e <;> first | exact e | contradiction
                rw [this, upd_same]
         have m3 : ∀ i, i ≠ id → i ≠ id2 → i ≠ fid → i ≠ fid2 → i ≠ fr → i ≠ fr + 1 → m' i = m i := fun i h1 h2 h3 h4 h5 h6 => by
          simp only [m']; rw [upd_ne _ _ h5, upd_ne _ _ h6, upd_ne _ _ h3, upd_ne _ _ h1, upd_ne _ _ h4, upd_ne _ _ h2]
         have s0 : σ' fr = r := upd_same _ _ _
         have s1 : σ' (fr + 1) = .func (.func 0) #[] (vs.toList ++ vs'.toList).toArray := by simp only [σ']; rw [upd_ne _ _ d9, upd_same]
         have s2 : ∀ i, i ≠ fr → i ≠ fr + 1 → σ' i = σ i := fun i h1 h2 => by simp only [σ']; rw [upd_ne _ _ h1, upd_ne _ _ h2]
         have kfam : ∀ b, hb (σ' (fr + 1)) b → hb (σ fid) b ∨ hb (σ fid2) b := fun b hbb => by
          rw [s1, hb_fam] at hbb
          obtain ⟨q, hq, hqb⟩ := hbb
          simp only [List.toList_toArray, List.mem_append] at hq
          rcases hq with hq | hq
          · exact .inl (by rw [b2]; exact hb_fam.2 ⟨q, hq, hqb⟩)
          · exact .inr (by rw [b2']; exact hb_fam.2 ⟨q, hq, hqb⟩)
         have hbr : ∀ b, hb r b → blkOf r = some b := fun b hbb => by
          obtain ⟨a, n, c, e⟩ := r2
          rw [e] at hbb ⊢; exact hb_slice.1 hbb
         have krow : ∀ b, hb (σ' fr) b → w.heap.size ≤ b ∨ hb (σ id) b := fun b hbb => by
          rw [s0] at hbb
          exact (r5 b (hbr b hbb)).imp (fun k => k) (fun k => .inl k)
         have hlt : ∀ i b, own (m i) = true → hb (σ i) b → b < w.heap.size := fun i b ho hbb => repB_lt (h.blk i) ho b hbb
         have kx : ∀ b, hb (σ' fr) b → hb (σ' (fr + 1)) b → False := fun b h1 h2 => by
          rcases krow b h1 with k1 | k1 <;> rcases kfam b h2 with k2 | k2
          · have := hlt fid b ofid k2; omega
          · have := hlt fid2 b ofid2 k2; omega
          · exact g1 (h.inj _ _ b oid ofid k1 k2)
          · exact g2 (h.inj _ _ b oid ofid2 k1 k2)
         have hkeepb : ∀ b, b < w.heap.size → ¬ hb (σ id) b → w'.heap[b]? = w.heap[b]? := fun b h1 h2 => r4 b h1 (fun e => h2 (.inl e))
         have hfb : ∀ q b, q ∈ vs.toList → blkOf q = some b → hb (σ fid) b := fun q b hq hqb => by rw [b2]; exact hb_fam.2 ⟨q, hq, hqb⟩
         have hfb2 : ∀ q b, q ∈ vs'.toList → blkOf q = some b → hb (σ fid2) b := fun q b hq hqb => by rw [b2']; exact hb_fam.2 ⟨q, hq, hqb⟩
         obtain ⟨k1, k2⟩ := h.step (σ' := σ') (N' := Nx N fr) (m' := m') (w' := w') (fun i => (i = id ∨ i = id2 ∨ i = fid ∨ i = fid2) ∨ i = fr ∨ i = fr + 1) (fun i k => k.1)
          (fun i k => by
            have h1 : i ≠ fr := fun e => k.2 ⟨by omega, by omega⟩
            have h2 : i ≠ fr + 1 := fun e => k.2 ⟨by omega, by omega⟩
            rw [m3 i (fun e => hn (e ▸ k.1)) (fun e => hn2 (e ▸ k.1)) (fun e => b1 (e ▸ k.1)) (fun e => b1' (e ▸ k.1)) h1 h2]; exact h.fresh i k.1)
          (fun i k => by simp only [not_or] at k; exact ⟨m3 i k.1.1 k.1.2.1 k.1.2.2.1 k.1.2.2.2 k.2.1 k.2.2, s2 i k.2.1 k.2.2⟩)
          (fun i k => s2 i (fun e => k (e ▸ n0)) (fun e => k (e ▸ n1)))
          (fun b hb0 hx => hkeepb b hb0 (fun hbb => hx id (.inl (.inl rfl)) oid hbb)) ⟨r9, r10⟩ r6 r7 r8
          (fun i b hi ho hbb => by
            rcases hi with hi | rfl | rfl
            · rw [m2 i hi] at ho; cases ho
            · rcases krow b hbb with k | k
              · exact .inl k
              · exact .inr ⟨id, .inl (.inl rfl), oid, k⟩
            · rcases kfam b hbb with k | k
              · exact .inr ⟨fid, .inl (.inr (.inr (.inl rfl))), ofid, k⟩
              · exact .inr ⟨fid2, .inl (.inr (.inr (.inr rfl))), ofid2, k⟩)
          (fun i i' b hi hi' ho ho' hb1 hb2 => by
            rcases hi with hi | rfl | rfl
            · rw [m2 i hi] at ho; cases ho
            · rcases hi' with hi' | rfl | rfl
              · rw [m2 _ hi'] at ho'; cases ho'
              · rfl
              · exact (kx b hb1 hb2).elim
            · rcases hi' with hi' | rfl | rfl
              · rw [m2 _ hi'] at ho'; cases ho'
              · exact (kx b hb2 hb1).elim
              · rfl)
          (fun i hi => by
            rcases hi with hi | rfl | rfl
            · rw [s2 i (by rcases hi with e | e | e | e <;> rw [e] <;> assumption) (by rcases hi with e | e | e | e <;> rw [e] <;> assumption)]; exact h.hone _
            · rw [s0]; exact r1
            · rw [s1]; rfl)
          (fun hk i hi => by
            rcases hi with hi | rfl | rfl
            · rw [m2 i hi]; trivial
            · rw [m0]
              refine ⟨.func 0, _, flat ++ flatx, fun k => k.2 ⟨by omega, by omega⟩, s1, by simp only [List.toList_toArray, List.length_append]; omega, by simp only [rx]; rw [s0, List.length_append]; exact r3, ?_⟩
              simp only [List.toList_toArray, holed, List.map_append]
              rw [List.zip_append (by rw [List.length_map]; omega)]
              exact roAll_mono (elG_keep hk.k) _ _ (roAll_append _ _ _ _ b5 b5')
            · rw [m1]
              refine ⟨.func 0, _, s1, ?_⟩
              simp only [List.toList_toArray]
              have hl1 := c2.len
              have hl2 := c2'.len
              refine ⟨by simp only [List.length_append]; omega, fun i zs q h1 h2 => ?_, fun i j q q2 b h1 h2 h3 h4 => ?_⟩
              · rw [List.getElem?_append] at h1 h2
                by_cases hi : i < xss.length
                · rw [if_pos hi] at h1; rw [if_pos (by omega)] at h2
                  obtain ⟨t1, fl, t2, t3⟩ := c2.row i zs q h1 h2
                  exact ⟨t1, fl, rowR_of_block t2 (fun g hg => hkeepb g (hlt fid g ofid (hfb q g (List.mem_of_getElem? h2) hg)) (fun k => g1 (h.inj _ _ g oid ofid k (hfb q g (List.mem_of_getElem? h2) hg)))), roAll_mono (ro_keep hk.k u3) _ _ t3⟩
                · rw [if_neg hi] at h1; rw [if_neg (by omega), hl1] at h2
                  obtain ⟨t1, fl, t2, t3⟩ := c2'.row _ zs q h1 h2
                  exact ⟨t1, fl, rowR_of_block t2 (fun g hg => hkeepb g (hlt fid2 g ofid2 (hfb2 q g (List.mem_of_getElem? h2) hg)) (fun k => g2 (h.inj _ _ g oid ofid2 k (hfb2 q g (List.mem_of_getElem? h2) hg)))), roAll_mono (ro_keep hk.k u3) _ _ t3⟩
              · rw [List.getElem?_append] at h1 h2
                by_cases hi : i < vs.toList.length <;> by_cases hj : j < vs.toList.length
                · rw [if_pos hi] at h1; rw [if_pos hj] at h2
                  exact c2.inj i j q q2 b h1 h2 h3 h4
                · rw [if_pos hi] at h1; rw [if_neg hj] at h2
                  exact absurd (h.inj _ _ b ofid ofid2 (hfb q b (List.mem_of_getElem? h1) h3) (hfb2 q2 b (List.mem_of_getElem? h2) h4)) hnf
                · rw [if_neg hi] at h1; rw [if_pos hj] at h2
                  exact absurd (h.inj _ _ b ofid ofid2 (hfb q2 b (List.mem_of_getElem? h2) h4) (hfb2 q b (List.mem_of_getElem? h1) h3)) hnf
                · rw [if_neg hi] at h1; rw [if_neg hj] at h2
                  have := c2'.inj _ _ q q2 b h1 h2 h3 h4
                  omega)
         refine ⟨σ', k1, k2, ?_, trivial⟩
         unfold repA repC
         exact ⟨fun k => k.2 ⟨by omega, by omega⟩, s0.symm⟩
       · exact hp.elim
     · exact hp.elim
   · exact hp.elim
 · exact hp.elim
end
end Go.Ev
