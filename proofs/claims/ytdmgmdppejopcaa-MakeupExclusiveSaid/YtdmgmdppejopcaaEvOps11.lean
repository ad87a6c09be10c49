/- Soundness of the operations: stores into maps, slices built, function values, calls; all operations together. -/
import Derived.Test.YtdmgmdppejopcaaEvOps10
set_option linter.unusedSimpArgs false
set_option linter.unusedVariables false
namespace Go.Ev

section
variable {cx : Cx} {σ : Nat → Value} {N : Nat → Prop} {m : Mem} {w : World} {P : Program} {T : Tab} {G : Env} {o : Oper} {fr : Nat} {ρ : Operand → Value} {av : Operand → AV}

theorem modify_mid {α : Type} (f : α → α) (e : α) (post : List α) : ∀ pre : List α, (pre ++ e :: post).modify pre.length f = pre ++ f e :: post
  | [] => rfl
  | x :: pre => by simp [modify_mid f e post pre]

theorem s_mapUpdate (h : RepM cx σ N m w) {t : TypeId} {x y z : Operand} (ho : o.op = .mapUpdate t x y z) (ht : TabOK P T) (hx : repA (rx cx σ N m w) (av x) (ρ x)) (hy : repA (rx cx σ N m w) (av y) (ρ y)) (hz : repA (rx cx σ N m w) (av z) (ρ z))
    (hp : (opEff T G o [av x, av y, av z] m fr).pre) : Runs P w (Res cx σ N m w fr (opEff T G o [av x, av y, av z] m fr)) ((execOp ρ o).run P w) := by
  simp only [opEff, ho] at hp ⊢
  split at hp <;> rename_i heq
  · rename_i kT eT id k v hd
    simp at heq
    rw [heq.1] at hx
    rw [heq.2.1] at hy
    rw [heq.2.2] at hz
    split at hp
    · rename_i kt vt ka va l hm
      split at hp
      · rename_i k' x' him hiv
        split at hp
        · rename_i hc
          rw [if_pos hc]
          obtain ⟨c1, c2, c3, c4, c5, c6, c7, c8, c9, c10⟩ := hc
          have hu := (TI.of_ok ht t (fun e => by rw [e] at hd; cases hd)).map kT eT hd
          have htk := TI.of_ok ht kT (fun e => c4 (by rw [e]; rfl))
          have hte := TI.of_ok ht eT (fun e => by rw [e] at c2; cases c2)
          have hK := keyT_of (kt := kt) ht c3 c4
          rw [← c10] at hK
          unfold repA repC at hx
          obtain ⟨hn, e1⟩ := hx
          simp only [rx] at e1 hn
          -- the rows among the value turn into plain data
          obtain ⟨q1, q2⟩ := h.settles (rowsOf v.cells)
          have hiv' := impl_settle m (rowsOf v.cells) vt v.cells
          rw [hiv] at hiv'
          have hno := settled_not_own (m := m) (ids := rowsOf v.cells) hiv (fun _ hh => hh)
          have hmid : updM m ((rowsOf v.cells).map (settle m)) id = .mapb kt vt ka va l := by
            rw [updM_settle m (rowsOf v.cells) m id (fun _ _ => .inl rfl)]
            split
            · simp [settle, hm]
            · exact hm
          obtain ⟨kvs, e4, hkr⟩ := av_mkV (x := rx cx σ N m w) h.hone hy c5 (impl_ne him (by have := (htk.ty kt c1); omega))
          rw [c8] at e4
          have hro := impl_ro h kt k.cells k' kvs him hkr (fun id hid => by rw [c7] at hid; cases hid)
          obtain ⟨vvs, e5, hvr⟩ := av_mkV (x := rx cx σ N m w) h.hone hz c6 (impl_ne hiv (by have := (hte.ty vt c2); omega))
          rw [c9] at e5
          have hck := checkKey_sound (P := P) (w := w) (x := rx cx σ N m w) (em := false) 100 kT _ hK.eq 10000 (by omega) _ kvs _ (kinds_eq kt _ c3 k' k') (expl_rep kt k' kvs hro)
          rw [hK.ag] at hck
          have hmm : updM m ((rowsOf v.cells).map (settle m) ++ [(id, Blk.mapb kt vt ka va (mset l k' x'))]) = upd (updM m ((rowsOf v.cells).map (settle m))) id (.mapb kt vt ka va (mset l k' x')) := by
            rw [updM_append]; rfl
          generalize updM m ((rowsOf v.cells).map (settle m)) = M at *
          have hrov := impl_ro q1 vt v.cells x' vvs hiv' (repCs_keep q2 _ _ hvr) hno
          have hb := q1.blk id
          rw [hmid] at hb
          obtain ⟨r, es, clock, e2, e3, hmr⟩ := hb
          simp only [rx] at e2 e3
          have hroM := ro_keep q2.k kt k' kvs hro
          have hset := MapKept.heap_set (o' := .map es clock) e3
          -- the world behind
          have fin : ∀ es', (execOp ρ o).run P w = .ok .skip { w with heap := w.heap.setIfInBounds r es' } → (∀ y : Rx, (rx cx σ N M w).Keeps y → ∃ esA cl, es' = .map esA cl ∧ mapRep y kt vt ka va (mset l k' x') esA.toList) →
              Runs P w (Res cx σ N m w fr ⟨True, .one .undef, (rowsOf v.cells).map (settle m) ++ [(id, .mapb kt vt ka va (mset l k' x'))], True⟩) ((execOp ρ o).run P w) := by
            intro es' hrun hrep
            obtain ⟨f1, f2⟩ := MapKept.heap_set (o' := es') e3
            obtain ⟨g1, g2⟩ := q1.write hn (.mapb kt vt ka va (mset l k' x')) (b := r) (by rw [e2]; rfl) (by rw [hmid]; rfl) (w' := { w with heap := w.heap.setIfInBounds r es' }) f2 (by simp) rfl rfl rfl (fun hk => by
              obtain ⟨esA, cl, rfl, hmr'⟩ := hrep _ hk
              exact ⟨r, esA, cl, e2, f1, hmr'⟩)
            obtain ⟨g3, g4⟩ := g1.weaken (N' := Nx N fr) (fun _ k => k.1)
            refine runs_skip hrun ⟨σ, ?_, ?_, ?_, trivial⟩ <;> simp only [hmm]
            · exact g3
            · exact ⟨(q2.k.trans g2.k (Nat.le_refl _)).trans g4.k (by simp [rx]), fun _ _ => rfl, fun _ k => k.1⟩
            · unfold repA repC; trivial
          rcases map_cases (x := rx cx σ N M w) k' l es.toList hmr with ⟨g1, g2, g3⟩ | ⟨pre, e, post, k2, ks2, v2, vs2, g1, g2, g3, g4, g5, g6, g7, g8, g9⟩
          · have hf := findKey_sound (P := P) (w := w) (x := rx cx σ N M w) hK hroM es.toList [] g2 (.inl rfl)
            rw [List.append_nil] at hf
            refine fin (.map (es.push { key := mkV ka kvs, val := mkV va vvs, born := clock }) (clock + 1)) ?_ (fun y hk => ⟨_, _, rfl, ?_⟩)
            · simp [execOp, ho, Instr.mapUpdate, run_underlying hu, e1, e2, e3, e4, e5, hck, hf, getObj, setObj, Sem.run]
            · rw [g3, Array.toList_push]
              exact mapRep_append _ _ _ _ (mapRep_keep hk _ _ hmr) ⟨_, [], kvs, vvs, rfl, rfl, ro_keep hk.k _ _ _ hroM, rfl, ro_keep hk.k _ _ _ hrov, rfl⟩
          · have hf := findKey_sound (P := P) (w := w) (x := rx cx σ N M w) hK hroM pre (e :: post) g2 (.inr ⟨e, post, rfl, ⟨k2, ks2, g3, g4, g5⟩⟩)
            rw [← g1] at hf
            have hk2 : k' = k2 := keyEq_eq kt _ c3 k' k2 g5
            subst hk2
            have hks : ks2 = kvs := ro_det kt _ c3 k' ks2 kvs g4 hroM
            subst hks
            have hlt : pre.length < es.size := by
              have : es.toList.length = es.size := by simp
              rw [← this, g1]; simp
            have hget : es[pre.length]? = some e := by
              have : es.toList[pre.length]? = some e := by rw [g1]; simp
              simpa using this
            have hstay : (Instr.keyThatStays (mkV ka ks2) (mkV ka ks2)).run P w = .ok (mkV ka ks2) w := by
              have : Instr.sameBits 10000 (mkV ka ks2) (mkV ka ks2) = true := by
                have hsc := ro_scalars kt _ c3 k' ks2 hroM
                cases ka with
                | true => exact sameBits_agg hsc 9999
                | false =>
                  have hn1 : kt.n = 1 := by rw [(htk.ty kt c1).1]; exact htk.one (by rw [← c10])
                  have hl := ro_len kt k' ks2 hroM
                  rw [hn1] at hl
                  match ks2, hl with
                  | [u], _ => exact sameBits_self (hsc u (by simp)) 10000
              simp [Instr.keyThatStays, this]
            refine fin (.map (es.modify pre.length fun e => { e with key := mkV ka ks2, val := mkV va vvs }) clock) ?_ (fun y hk => ⟨_, _, rfl, ?_⟩)
            · simp [execOp, ho, Instr.mapUpdate, run_underlying hu, e1, e2, e3, e4, e5, hck, hf, getObj, setObj, Sem.run, hget, g3, hstay]
            · rw [Array.toList_modify, g1, modify_mid]
              exact g9 y hk x' _ ks2 vvs rfl (ro_keep hk.k _ _ _ hroM) rfl (ro_keep hk.k _ _ _ hrov)
        · exact hp.elim
      · exact hp.elim
    · exact hp.elim
  · exact hp.elim

/-! ### slices built -/

theorem fill_seq {size : Nat} (hpos : 0 < size) : ∀ (vs : List Value) (k : Nat) (done rest : List Value), done.length = k * size → rest.length = vs.length * size → (∀ v ∈ vs, v.cells.size = size) →
    Instr.fill (fun i => some (i * size, size)) (done ++ rest).toArray ((vs.zipIdx k).map fun p => (p.2, p.1)) = some (done ++ vs.flatMap fun v => v.cells.toList).toArray
  | [], k, done, rest, hd, hr, _ => by
    have : rest = [] := List.eq_nil_of_length_eq_zero (by simpa using hr)
    subst this
    rfl
  | v :: vs, k, done, rest, hd, hr, hs => by
    have hv := hs v List.mem_cons_self
    have hvl : v.cells.toList.length = size := by simpa using hv
    have hr' : rest.length = vs.length * size + size := by rw [hr, List.length_cons, Nat.add_mul, Nat.one_mul]
    simp only [List.zipIdx_cons, List.map_cons]
    rw [fill_step (fun i => some (i * size, size)) (done ++ rest) k v _ rfl hv (by simp; omega)]
    have h1 : (done ++ rest).take (k * size) = done := by rw [← hd]; exact List.take_left
    have h2 : (done ++ rest).drop (k * size + v.cells.toList.length) = rest.drop size := by rw [hvl, ← hd, ← List.drop_drop, List.drop_left]
    rw [h1, h2, fill_seq hpos vs (k + 1) (done ++ v.cells.toList) (rest.drop size) (by simp [hd, hv, Nat.add_mul]) (by simp; omega) (fun u hu => hs u (List.mem_cons_of_mem _ hu))]
    simp

theorem buildParts_ro {M : Mem} (q1 : RepM cx σ N M w) {e : TypeId} {u : Ty} (hsz : u.n = (TI.of T e).size) (hpos : 0 < u.n) : ∀ (avs : List AV) (pv : List Value) (xs : List u.den), seqO (avs.map fun v => if v.cells.length = (TI.of T e).size ∧ v.cells.all known = true then impl M u v.cells else none) = some xs →
    repAs (rx cx σ N M w) avs pv → (∀ a ∈ avs, ∀ id ∈ rowsOf a.cells, own (M id) = false) → roAll (ro w (Owned cx σ M) u) xs (pv.flatMap fun v => v.cells.toList) ∧ (∀ v ∈ pv, v.cells.size = u.n) ∧ pv.length = xs.length
  | [], pv, xs, hs, hr, _ => by
    unfold repAs at hr
    subst hr
    simp [seqO] at hs; subst hs
    exact ⟨rfl, (fun v hv => by cases hv), rfl⟩
  | a :: avs, pv, xs, hs, hr, hno => by
    unfold repAs at hr
    obtain ⟨v, r, rfl, ha, hr'⟩ := hr
    simp only [List.map_cons] at hs
    split at hs
    · rename_i hc
      cases hi : impl M u a.cells with
      | none => rw [hi] at hs; simp [seqO] at hs
      | some y =>
        rw [hi] at hs
        simp only [seqO] at hs
        split at hs
        · rename_i ys hys
          simp at hs; subst hs
          obtain ⟨h1, h2, h3⟩ := buildParts_ro q1 hsz hpos avs r ys hys hr' (fun a ha => hno a (List.mem_cons_of_mem _ ha))
          have hac := cells_of (x := rx cx σ N M w) q1.hone ha hc.2 (impl_ne hi hpos)
          have hro := impl_ro q1 u a.cells y _ hi hac (hno a List.mem_cons_self)
          have hl := ro_len u y _ hro
          refine ⟨⟨v.cells.toList, r.flatMap fun v => v.cells.toList, by simp, hro, h1⟩, fun v' hv' => ?_, by simp [h3]⟩
          cases List.mem_cons.1 hv' with
          | inl e => subst e; simpa using hl
          | inr e => exact h2 v' e
        · cases hs
    · simp [seqO] at hs

theorem repAs_map {x : Rx} {av : Operand → AV} {ρ : Operand → Value} : ∀ l : List Operand, (∀ y ∈ l, repA x (av y) (ρ y)) → repAs x (l.map av) (l.map ρ)
  | [], _ => by unfold repAs; rfl
  | y :: l, h => by
    simp only [List.map_cons]
    unfold repAs
    exact ⟨_, _, rfl, h y List.mem_cons_self, repAs_map l (fun z hz => h z (List.mem_cons_of_mem _ hz))⟩

theorem zip_range {α β : Type} (f : β → α) : ∀ (l : List (Nat × β)) (k : Nat), l.map (·.1) = List.range' k l.length → l.map (fun p => (p.1, f p.2)) = ((l.map fun p => f p.2).zipIdx k).map fun p => (p.2, p.1)
  | [], _, _ => rfl
  | (i, b) :: l, k, h => by
    simp only [List.map_cons, List.length_cons, List.range'_succ, List.cons.injEq] at h
    obtain ⟨rfl, h2⟩ := h
    simp [zip_range f l (i + 1) h2]

theorem s_buildSlice (h : RepM cx σ N m w) (hfr : ∀ id, fr ≤ id → id < fr + 32 → N id) {t : TypeId} {len : Nat} {parts : Array (Nat × Operand)} (ho : o.op = .buildSlice t len parts) (ht : TabOK P T)
    (hx : ∀ x ∈ opsOf o.op, repA (rx cx σ N m w) (av x) (ρ x)) (hp : (opEff T G o ((opsOf o.op).map av) m fr).pre) : Runs P w (Res cx σ N m w fr (opEff T G o ((opsOf o.op).map av) m fr)) ((execOp ρ o).run P w) := by
  rw [ho] at hx hp ⊢
  simp only [opEff, ho, opsOf] at hx hp ⊢
  split at hp
  · rename_i e hd
    split at hp
    · rename_i u hty
      split at hp
      · rename_i xs hbp
        split at hp
        · rename_i hc
          unfold seqIdx at hc
          obtain ⟨c1, c2, c3⟩ := of_decide_eq_true hc
          have hu := (TI.of_ok ht t (fun e => by rw [e] at hd; cases hd)).slice e hd
          have hte := TI.of_ok ht e (fun k => by rw [k] at hty; cases hty)
          obtain ⟨i, hi, hs, hby, z, hz, hzs, _⟩ := hte.info
          obtain ⟨hun, hpos, _⟩ := hte.ty u hty
          have hreps := repAs_map (x := rx cx σ N m w) _ hx
          have hids : ((parts.toList.map (·.2)).map av).flatMap (fun v => (rowsOf v.cells).map (settle m)) = (((parts.toList.map (·.2)).map av).flatMap fun v => rowsOf v.cells).map (settle m) := by
            rw [List.map_flatMap]
          simp only [hids]
          generalize hids' : ((parts.toList.map (·.2)).map av).flatMap (fun v => rowsOf v.cells) = ids at *
          obtain ⟨q1, q2⟩ := h.settles ids
          have hbp' : seqO (((parts.toList.map (·.2)).map av).map fun v => if v.cells.length = (TI.of T e).size ∧ v.cells.all known = true then impl (updM m (ids.map (settle m))) u v.cells else none) = some xs := by
            rw [← hbp]
            unfold buildParts
            congr 2
            funext v
            rw [impl_settle]
          have hown : ∀ a ∈ (parts.toList.map (·.2)).map av, ∀ id ∈ rowsOf a.cells, own (updM m (ids.map (settle m)) id) = false := by
            intro a ha id hid
            have hmem : id ∈ ids := by rw [← hids']; exact List.mem_flatMap.2 ⟨a, ha, hid⟩
            -- what is read there is a row or plain data
            have : ∃ y, impl m u a.cells = some y := by
              have key : ∀ (l : List AV) (ys : List u.den), seqO (l.map fun v => if v.cells.length = (TI.of T e).size ∧ v.cells.all known = true then impl m u v.cells else none) = some ys → ∀ a ∈ l, ∃ y, impl m u a.cells = some y := by
                intro l
                induction l with
                | nil => intro _ _ a ha; cases ha
                | cons b l ih =>
                  intro ys hys a ha
                  simp only [List.map_cons] at hys
                  split at hys
                  · cases hb : impl m u b.cells with
                    | none => rw [hb] at hys; simp [seqO] at hys
                    | some y =>
                      rw [hb] at hys
                      simp only [seqO] at hys
                      split at hys
                      · rename_i r hr
                        cases List.mem_cons.1 ha with
                        | inl e => subst e; exact ⟨y, hb⟩
                        | inr e => exact ih r hr a e
                      · cases hys
                  · simp [seqO] at hys
              exact key _ xs hbp a ha
            obtain ⟨y, hy⟩ := this
            rw [updM_settle m ids m id (fun _ _ => .inl rfl), if_pos hmem, settle_eq]
            obtain ⟨v, ys, hm | ⟨ee, hm⟩⟩ := rows_are _ _ _ hy id hid <;> simp [hm, own]
          have hreps' := repAs_keep q2 _ _ hreps
          obtain ⟨b1, b2, b3⟩ := buildParts_ro (T := T) q1 hun (by omega) _ _ xs hbp' hreps' hown
          have hplen : parts.toList.length = len := by simpa using c3
          have hxl : xs.length = len := by rw [← b3]; simpa using hplen
          have hfill := fill_seq (size := i.size) (by omega) ((parts.toList.map (·.2)).map ρ) 0 [] ((Array.range (len * i.size)).map (z.cells[· % z.cells.size]!)).toList (by simp) (by simp [hplen]) (fun v hv => by rw [b2 v hv]; omega)
          rw [List.nil_append, List.nil_append, Array.toArray_toList] at hfill
          have hpe := zip_range ρ parts.toList 0 (by rw [c1, hplen, List.range_eq_range'])
          have hrun : (execOp ρ o).run P w = .ok (.value (.slice (some ⟨w.heap.size, 0, none⟩) len len)) (w.alloc (.cells (((parts.toList.map (·.2)).map ρ).flatMap fun v => v.cells.toList).toArray e)) := by
            have h16 : ¬ (len * i.size > 2 ^ 24) := by rw [hs]; omega
            have hmm : (parts.toList.map (·.2)).map ρ = parts.toList.map fun p => ρ p.2 := by simp
            rw [hmm] at hfill ⊢
            rw [← hpe] at hfill
            by_cases h0 : len * i.size = 0
            · have hz0 : ∀ f : Nat → Value, (Array.range (len * i.size)).map f = #[] := by intro f; rw [h0]; simp
              rw [hz0] at hfill
              have hz1 : ∀ f : Nat → Value, (Array.range 0).map f = #[] := by intro f; simp
              simp [execOp, ho, Instr.buildSlice, run_underlying hu, run_sizeOf hi, h0, hz1, hfill, newRow]
            · simp [execOp, ho, Instr.buildSlice, run_underlying hu, run_sizeOf hi, h0, h16, run_zeroValue hi hz, hfill, newRow]
          have hfl := roAll_len (fun x c => ro_len u x c) _ _ b1
          have hlm : len ≤ maxLen := by
            have := Nat.le_mul_of_pos_right len hpos
            simp only [maxLen]; omega
          have := fresh_row (cx := cx) (w := w) (e := e) (t := u) (xs := xs) (cap := len) (p := True) (q := True) q2 q1 (hfr fr (by omega) (by omega)) (fun id hid _ => hid)
            (alloc_world w (.cells (((parts.toList.map (·.2)).map ρ).flatMap fun v => v.cells.toList).toArray e)) (heap_alloc_new w _) b1 (by omega) hlm (by rw [List.size_toArray, hfl, hxl]) (by
              show List.take _ (List.flatMap _ _) = _
              rw [← hfl]; exact List.take_length) trivial rfl
          rw [hxl] at this
          exact runs_value hrun this
        · exact hp.elim
      · exact hp.elim
    · exact hp.elim
  · exact hp.elim

end
end Go.Ev
