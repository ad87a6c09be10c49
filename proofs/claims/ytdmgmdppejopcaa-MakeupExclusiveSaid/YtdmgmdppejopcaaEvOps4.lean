/- Soundness of the operations on slices. -/
import Derived.Test.YtdmgmdppejopcaaEvOps3
set_option linter.unusedSimpArgs false
namespace Go.Ev

section
variable {cx : Cx} {σ : Nat → Value} {N : Nat → Prop} {m : Mem} {w : World} {P : Program} {T : Tab} {G : Env} {o : Oper} {fr : Nat} {ρ : Operand → Value} {av : Operand → AV}

theorem s_store (h : RepM cx σ N m w) {t : TypeId} {x y : Operand} (ho : o.op = .store t x y) (ht : TabOK P T) (hx : repA (rx cx σ N m w) (av x) (ρ x)) (hy : repA (rx cx σ N m w) (av y) (ρ y))
    (hp : (opEff T G o [av x, av y] m fr).pre) : Runs P w (Res cx σ N m w fr (opEff T G o [av x, av y] m fr)) ((execOp ρ o).run P w) := by
  simp only [opEff, ho] at hp ⊢
  split at hp <;> rename_i heq
  · rename_i c a
    simp at heq
    rw [heq.1] at hx
    rw [heq.2] at hy
    unfold repA at hx
    exact store_core h ho ht hx hy hp
  · exact hp.elim

theorem elem_of {t e : TypeId} (h : P.underlying t = some (.slice e)) : P.elem t = e := by
  simp [Program.elem, h]

theorem fields_get {t : TypeId} {ti : TI} {fs : List (Nat × Nat × Bool)} (ht : TIok P t ti) (hd : ti.desc = .struct fs) {f : Nat} {off sz : Nat} {ag : Bool} (hf : fs[f]? = some (off, sz, ag)) :
    ∃ (flds : Array Field) (fd : Field) (i : TypeInfo) (d : TypeDesc), P.underlying t = some (.struct flds) ∧ flds[f]? = some fd ∧ fd.offset = off ∧ P.info? fd.type = some i ∧ i.size = sz ∧ P.underlying fd.type = some d ∧ aggB d = ag ∧
      off + sz ≤ ti.size ∧ (ag = false → sz = 1) := by
  obtain ⟨flds, hu, rfl, hall, hone⟩ := ht.struct fs hd
  rw [List.getElem?_map] at hf
  cases hq : flds.toList[f]? with
  | none => rw [hq] at hf; cases hf
  | some fd =>
    rw [hq] at hf
    simp at hf
    have hq' : flds[f]? = some fd := by simpa using hq
    obtain ⟨i, d, hi, hdd⟩ := hall fd (Array.mem_of_getElem? hq')
    have hs : i.size = sizeB P fd.type := by simp [sizeB, hi]
    have hg : aggB d = isAggB P fd.type := by simp [isAggB, hdd]
    obtain ⟨ho1, ho2⟩ := hone fd (Array.mem_of_getElem? hq')
    refine ⟨flds, fd, i, d, hu, hq', hf.1, hi, hs.trans hf.2.1, hdd, hg.trans hf.2.2, by rw [← hf.1, ← hf.2.1]; exact ho1, fun e => by rw [← hf.2.1]; exact ho2 (hf.2.2.trans e)⟩

theorem run_fieldAt {s : TypeId} {flds : Array Field} {f : Nat} {fd : Field} {i : TypeInfo} (hu : P.underlying s = some (.struct flds)) (hf : flds[f]? = some fd) (hi : P.info? fd.type = some i) (hpos : 0 < i.size) (b o : Nat) :
    (Instr.fieldAt s (.pointer (some ⟨b, o, none⟩)) f).run P w = .ok (.pointer (some ⟨b, o + fd.offset, none⟩)) w := by
  have : ¬ i.size = 0 := by omega
  simp [Instr.fieldAt, run_underlying hu, hf, Instr.sureAddr, fieldPlace, run_sizeOf hi, this, add_none]

theorem s_fieldAddr (h : RepM cx σ N m w) {t : TypeId} {x : Operand} {f : Nat} (ho : o.op = .fieldAddr t x f) (ht : TabOK P T) (hx : repA (rx cx σ N m w) (av x) (ρ x))
    (hp : (opEff T G o [av x] m fr).pre) : Runs P w (Res cx σ N m w fr (opEff T G o [av x] m fr)) ((execOp ρ o).run P w) := by
  simp only [opEff, ho] at hp ⊢
  split at hp <;> rename_i heq
  · rename_i fs c hd
    simp at heq
    rw [heq] at hx
    have htt := TI.of_ok ht t (fun e => by rw [e] at hd; cases hd)
    have key : ∀ off sz ag, fs[f]? = some (off, sz, ag) → 0 < sz → ∀ b q, ρ x = .pointer (some ⟨b, q, none⟩) → (execOp ρ o).run P w = .ok (.value (.pointer (some ⟨b, q + off, none⟩))) w := by
      intro off sz ag hf hpos b q e
      obtain ⟨flds, fd, i, d, hu, hq, hoff, hi, hs, _⟩ := fields_get htt hd hf
      have := run_fieldAt (P := P) (w := w) hu hq hi (by omega) b q
      rw [hoff] at this
      simp [execOp, ho, e, this]
    unfold repA at hx
    unfold fieldE at hp ⊢
    split at hp
    · rename_i id off
      try simp only []
      split at hp
      · rename_i q sz ag hf
        split at hp
        · rename_i hpos
          try simp only [hf, hpos, if_true]
          unfold repC at hx
          obtain ⟨hn, b, e1, e2⟩ := hx
          exact runs_value (key q sz ag hf hpos b off e2) (okr_res h (by unfold repA repC; exact ⟨hn, b, e1, rfl⟩))
        · exact hp.elim
      · exact hp.elim
    · rename_i u y off
      try simp only []
      split at hp
      · rename_i q sz ag hf
        split at hp
        · rename_i hpos
          try simp only [hf, hpos, if_true]
          unfold repC at hx
          obtain ⟨b, p, vs, e1, e2, e3⟩ := hx
          exact runs_value (key q sz ag hf hpos b (p + off) e1) (okr_res h (by unfold repA repC; exact ⟨b, p, vs, by rw [Nat.add_assoc], e2, e3⟩))
        · exact hp.elim
      · exact hp.elim
    · rename_i id z i off
      try simp only []
      split at hp
      · rename_i q sz ag hf
        split at hp
        · rename_i hpos
          try simp only [hf, hpos, if_true]
          unfold repC at hx
          obtain ⟨hn, b, n, c, e1, e2⟩ := hx
          exact runs_value (key q sz ag hf hpos b _ e2) (okr_res h (by unfold repA repC; exact ⟨hn, b, n, c, e1, by rw [Nat.add_assoc]⟩))
        · exact hp.elim
      · exact hp.elim
    · exact hp.elim
  · exact hp.elim

theorem run_part {t : TypeId} {i : TypeInfo} {d : TypeDesc} (hi : P.info? t = some i) (hd : P.underlying t = some d) (h1 : aggB d = false → i.size = 1) (vs : List Value) (off : Nat) (_ : off + i.size ≤ vs.length) (hz : aggB d = false → off < vs.length) :
    (part t vs.toArray off).run P w = .ok (if aggB d then .agg ((vs.drop off).take i.size).toArray else ((vs.drop off).take i.size).getD 0 undef) w := by
  unfold part
  rw [Sem.run_bind, run_isAgg hd, Result.andThen_ok]
  cases ha : aggB d with
  | true => simp [run_sizeOf hi, Nat.add_sub_cancel_left]
  | false =>
    have hlt := hz ha
    have h1' := h1 ha
    simp [hlt, h1', List.getD, List.getElem?_drop]

theorem s_field (h : RepM cx σ N m w) {t : TypeId} {x : Operand} {f : Nat} (ho : o.op = .field t x f) (ht : TabOK P T) (hx : repA (rx cx σ N m w) (av x) (ρ x))
    (hp : (opEff T G o [av x] m fr).pre) : Runs P w (Res cx σ N m w fr (opEff T G o [av x] m fr)) ((execOp ρ o).run P w) := by
  simp only [opEff, ho] at hp ⊢
  split at hp <;> rename_i heq
  · rename_i fs cs hd
    simp at heq
    rw [heq] at hx
    have htt := TI.of_ok ht t (fun e => by rw [e] at hd; cases hd)
    split at hp
    · rename_i off sz ag hf
      split at hp
      · rename_i hle
        try simp only [hf, hle, if_true]
        unfold repA at hx
        obtain ⟨vs, e, hcs⟩ := hx
        obtain ⟨flds, fd, i, d, hu, hq, hoff, hi, hs, hdd, hag, _, h1⟩ := fields_get htt hd hf
        have hvl := repCs_len _ _ hcs
        have h1' : ag = false → sz = 1 := h1
        have hr := run_part (P := P) (w := w) hi hdd (fun e => by rw [hs]; exact h1' (hag ▸ e)) vs off (by rw [hs]; omega) (fun e => by have := h1' (hag ▸ e); omega)
        rw [hag, hs] at hr
        refine runs_value (v := if ag then .agg ((vs.drop off).take sz).toArray else ((vs.drop off).take sz).getD 0 undef) (w' := w) ?_ (okr_res h (avOf_rep (repCs_take sz _ _ (repCs_drop off _ _ hcs)) (fun e => by simp; have := h1' e; omega)))
        simp [execOp, ho, e, Instr.field, run_underlying hu, hq, asAgg, hoff, hr]
      · exact hp.elim
    · exact hp.elim
  · exact hp.elim

theorem s_indexAddr (h : RepM cx σ N m w) {t : TypeId} {x y : Operand} (ho : o.op = .indexAddr t x y) (ht : TabOK P T) (hx : repA (rx cx σ N m w) (av x) (ρ x)) (hy : repA (rx cx σ N m w) (av y) (ρ y))
    (hp : (opEff T G o [av x, av y] m fr).pre) : Runs P w (Res cx σ N m w fr (opEff T G o [av x, av y] m fr)) ((execOp ρ o).run P w) := by
  simp only [opEff, ho] at hp ⊢
  split at hp <;> rename_i heq
  · rename_i e c k i hd
    simp at heq
    rw [heq.1] at hx
    rw [heq.2] at hy
    have htt := TI.of_ok ht t (fun e => by rw [e] at hd; cases hd)
    have hu := htt.slice e hd
    obtain ⟨ey, _⟩ := of_int hy
    -- the address
    have key : ∀ u : Ty, (TI.of T e).ty = some u → ∀ b q n cap, ρ x = .slice (some ⟨b, q, none⟩) n cap → 0 ≤ i → i < n →
        (execOp ρ o).run P w = .ok (.value (.pointer (some ⟨b, q + i.toNat * u.n, none⟩))) w := by
      intro u hty b q n cap e1 h0 h1
      have hte := TI.of_ok ht e (fun k => by rw [k] at hty; cases hty)
      obtain ⟨ii, hii, hs, _⟩ := hte.info
      have hun := (hte.ty u hty).1
      have := run_indexAt_slice (P := P) w t ⟨b, q, none⟩ n cap k i (by rw [elem_of hu]; exact hu)
      rw [elem_of hu, run_sizeOf hii, hs, ← hun] at this
      simp [execOp, ho, e1, ey, this, h0, h1, add_none]
    unfold repA at hx
    unfold indexE at hp ⊢
    have done : ∀ (u : Ty) (xs : List u.den) b q n cap (p : Prop), (TI.of T e).ty = some u → ρ x = .slice (some ⟨b, q, none⟩) n cap → n = xs.length → (h0 : 0 ≤ i) → (h1 : i < xs.length) →
        (∃ vs, ro w (Owned cx σ m) u xs[i.toNat] vs ∧ CellsAt w (Owned cx σ m) b (q + i.toNat * u.n) vs) →
        Runs P w (Res cx σ N m w fr ⟨p, .one (.rp u (xs.getD i.toNat u.dflt) 0), [], 0 ≤ i ∧ i < xs.length⟩) ((execOp ρ o).run P w) := by
      intro u xs b q n cap p hty e1 hn h0 h1 hv
      obtain ⟨vs, hr, hc⟩ := hv
      refine runs_value (key u hty b q n cap e1 h0 (by omega)) (Res.pure h rfl ?_ ⟨h0, h1⟩)
      unfold repA repC
      exact ⟨b, q + i.toNat * u.n, vs, rfl, by rw [getD_eq xs i.toNat u.dflt (by omega)]; exact hr, hc⟩
    split at hp
    · rename_i u xs cp
      try simp only []
      split at hp
      · rename_i hty
        try simp only [hty, if_true]
        obtain ⟨h0, h1⟩ := hp
        unfold repC at hx
        obtain ⟨⟨a, len, cap, e1, e2, e3, e4, e5⟩, _⟩ := hx
        simp at e1
        rcases e5 with e7 | ⟨b, q, flat, e6, e7, e8⟩
        · omega
        · subst e6
          obtain ⟨pre, vs, post, he, hpl, hr, _, _⟩ := roAll_at (fun x c => ro_len u x c) e7 (i := i.toNat) (by omega)
          refine done u xs b q len cap _ hty e1 e2 h0 h1 ⟨vs, hr, fun j v hv => ?_⟩
          have hj : j < vs.length := (List.getElem?_eq_some_iff.1 hv).1
          have := e8 (i.toNat * u.n + j) v (by rw [he, List.getElem?_append_right (by omega), hpl, show i.toNat * u.n + j - i.toNat * u.n = j by omega, List.getElem?_append_left hj]; exact hv)
          rwa [← Nat.add_assoc] at this
      · exact hp.elim
    · rename_i id
      try simp only []
      unfold repC at hx
      obtain ⟨hn, e1⟩ := hx
      simp only [rx] at e1 hn
      split at hp
      · rename_i e' u xs hm
        try simp only [hm]
        split at hp
        · rename_i hty
          try simp only [hty, if_true]
          obtain ⟨h0, h1⟩ := hp
          have hb := h.blk id
          rw [hm] at hb
          obtain ⟨n', flat, rfl, k1, k2⟩ := hb
          simp only [rx] at k1
          rcases k1.2 with ⟨e4, _⟩ | ⟨g, cap, cur, hz, e3, _⟩
          · omega
          · rw [← e1] at e3
            have := key u hty g 0 xs.length cap e3 h0 (by omega)
            rw [Nat.zero_add] at this
            refine runs_value this (Res.pure h rfl ?_ ⟨h0, h1⟩)
            unfold repA repC
            exact ⟨hn, g, xs.length, cap, by simp only [rx]; rw [← e1]; exact e3, by rw [Nat.add_zero]⟩
        · exact hp.elim
      · rename_i u xs hm
        try simp only [hm]
        split at hp
        · rename_i hty
          try simp only [hty, if_true]
          obtain ⟨h0, h1⟩ := hp
          have hb := h.blk id
          rw [hm] at hb
          obtain ⟨a, len, cap, e3, e4, e5, e6, e7⟩ := hb
          simp [rx] at e3
          rcases e7 with ⟨e8, e9⟩ | ⟨b, q, flat, e8, e9, e10⟩
          · omega
          · subst e8
            obtain ⟨vs, hr, hc⟩ := settled_elem h hm e3 (i := i.toNat) (by omega)
            exact done u xs b q len cap _ hty (e1.trans e3) e4 h0 h1 ⟨vs, hr, hc⟩
        · exact hp.elim
      · exact hp.elim
    · rename_i id sz lo len
      try simp only []
      split at hp
      · rename_i e' u xs hm
        try simp only [hm]
        split at hp
        · rename_i hty
          try simp only [hty, and_self, if_true]
          obtain ⟨hty1, rfl, hll⟩ := hty
          obtain ⟨h0, h1⟩ := hp
          have hb := h.blk id
          rw [hm] at hb
          obtain ⟨a, cap, flat, e1, e2, e3, e4, e5⟩ := row_read hb
          obtain ⟨g1, g2, a', g3, g4⟩ := win_read hx (by simp only [rx]; exact e1)
          obtain ⟨b, rfl, rfl⟩ := g4 (by omega)
          have := key u hty1 b (lo * u.n) len (cap - lo) g3 h0 (by omega)
          refine runs_value this (Res.pure h rfl ?_ ⟨h0, h1⟩)
          unfold repC at hx
          unfold repA repC
          refine ⟨hx.1, b, xs.length, cap, by simp only [rx]; exact e1, ?_⟩
          rw [Nat.add_zero, show ((lo : Int) + i).toNat = lo + i.toNat by omega, Nat.add_mul]
        · exact hp.elim
      · exact hp.elim
    · exact hp.elim
  · exact hp.elim

end
end Go.Ev
