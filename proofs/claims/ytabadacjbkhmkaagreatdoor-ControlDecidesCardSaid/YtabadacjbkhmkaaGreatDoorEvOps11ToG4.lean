/- Part. -/
import Derived.Test.YtabadacjbkhmkaaGreatDoorEvOps8ToOps10
import Derived.Test.YtabadacjbkhmkaaGreatDoorEvOps6ToPtr
import Derived.Test.YtabadacjbkhmkaaGreatDoorEvG1ToOps5
set_option linter.all false
namespace Go.Ev
section
variable {cx : Cx} {σ : Nat → Value} {N : Nat → Prop} {m : Mem} {w : World} {P : Program} {T : Tab} {G : Env} {o : Oper} {fr : Nat} {ρ : Operand → Value} {av : Operand → AV}
theorem bA6 {α : Type} (f : α → α) (e : α) (post : List α) : ∀ pre : List α, (pre ++ e :: post).modify pre.length f = pre ++ f e :: post
 | [] => rfl
 | x :: pre => by simp [bA6 f e post pre]
theorem vB8 {x y : Rx} {kt vt : Ty} {ka : Bool} {key : kt.den} {kvs : List Value} {val : Value} {cl : Nat} {es : List MapEntry} (hk : ro x.w x.O kt key kvs) (h : ∀ e ∈ es, EntIs y kt ka key false e) :
 stq kt vt = true → ∀ e ∈ es, e.key ≠ (MapEntry.mk (mkV ka kvs) val cl).key := fun q e he hh => by
 have hkt : kt = .str := by
  unfold stq at q; split at q
  · cases q
  · rfl
  · cases q
 subst hkt; obtain ⟨k', ks', e1, e2, e3⟩ := h e he; obtain ⟨rfl, _⟩ := hk; obtain ⟨rfl, _⟩ := e2; rw [e1] at hh; have hkk : key = k' := by
  cases ka
  · simpa [mkV] using hh.symm
  · simpa [mkV] using hh.symm
 unfold keyEq at e3; rw [hkk] at e3; simp at e3
theorem aB5 (h : RepM cx σ N m w) {t : TypeId} {x y z : Operand} (ho : o.op = .mapUpdate t x y z) (ht : TabOK P T) (hx : repA (rx cx σ N m w) (av x) (ρ x)) (hy : repA (rx cx σ N m w) (av y) (ρ y)) (hz : repA (rx cx σ N m w) (av z) (ρ z))
 (hp : (opEff T G o [av x, av y, av z] m fr).pre) : Runs P w (Res cx σ N m w fr (opEff T G o [av x, av y, av z] m fr)) ((execOp ρ o).run P w) := by
 simp only [opEff, ho] at hp ⊢; split at hp <;> rename_i heq
 · rename_i kT eT id k v hd; simp at heq; rw [heq.1] at hx; rw [heq.2.1] at hy; rw [heq.2.2] at hz; split at hp
   · rename_i kt vt ka va l hm; split at hp
     · rename_i k' x' him hiv; split at hp
       · rename_i hc; rw [if_pos hc]; obtain ⟨c1, c2, c3, c4, c5, c6, c7, c8, c9, c10, c11⟩ := hc; have hu := (TI.of_ok ht t (fun e => by rw [e] at hd; cases hd)).map kT eT hd; have htk := TI.of_ok ht kT (fun e => c4 (by rw [e]; rfl)); have hK := tC2 (kt := kt) ht c3 c4; rw [← c10] at hK; unfold repA repC at hx; obtain ⟨hn, e1⟩ := hx; simp only [rx] at e1 hn; obtain ⟨q1, q2⟩ := h.settles (rowsOf v.cells); have hiv' := cA2 m (rowsOf v.cells) vt v.cells; rw [hiv] at hiv'; have hno := aA3 (m := m) (ids := rowsOf v.cells) hiv (fun _ hh => hh); have hmid : updM m ((rowsOf v.cells).map (settle m)) id = .mapb kt vt ka va l := by
          rw [zA0 m (rowsOf v.cells) m id (fun _ _ => .inl rfl)]; split
          · simp [settle, hm]
          · exact hm
         obtain ⟨kvs, e4, hkr⟩ := aC8 (x := rx cx σ N m w) h.hone hy c5 (bB5 him (by have := (htk.ty kt c1); omega)); rw [c8] at e4; have hro := rA2 h kt k.cells k' kvs him hkr (fun id hid => by rw [c7] at hid; cases hid); obtain ⟨vvs, e5, hvr⟩ := mD0 (x := rx cx σ N m w) hz c11; rw [c9] at e5; have hck := jA2 (P := P) (w := w) (x := rx cx σ N m w) (em := false) 100 kT _ hK.eq 10000 (by omega) _ kvs _ (eA3 kt _ c3 k' k') (vA0 kt k' kvs hro); rw [hK.ag] at hck; have hmm : updM m ((rowsOf v.cells).map (settle m) ++ [(id, Blk.mapb kt vt ka va (mset l k' x'))]) = upd (updM m ((rowsOf v.cells).map (settle m))) id (.mapb kt vt ka va (mset l k' x')) := by
          rw [yA0]; rfl
         generalize updM m ((rowsOf v.cells).map (settle m)) = M at *; have hrov := rA2 q1 vt v.cells x' vvs hiv' (sA0 q2 _ _ hvr) hno; have hb := q1.blk id; rw [hmid] at hb; obtain ⟨r, es, clock, e2, e3, hmr, hsp⟩ := hb; simp only [rx] at e2 e3; have hroM := hA0 q2.k kt k' kvs hro; have hset := MapKept.heap_set (o' := .map es clock) e3
         have fin : ∀ es', (execOp ρ o).run P w = .ok .skip { w with heap := w.heap.setIfInBounds r es' } → (∀ y : Rx, (rx cx σ N M w).Keeps y → ∃ esA cl, es' = .map esA cl ∧ mapRep y kt vt ka va (mset l k' x') esA.toList ∧ Stp kt vt esA.toList cl) →
          Runs P w (Res cx σ N m w fr ⟨True, .one .undef, (rowsOf v.cells).map (settle m) ++ [(id, .mapb kt vt ka va (mset l k' x'))], True⟩) ((execOp ρ o).run P w) := by
          intro es' hrun hrep; obtain ⟨f1, f2⟩ := MapKept.heap_set (o' := es') e3
          obtain ⟨g1, g2⟩ := q1.write hn (.mapb kt vt ka va (mset l k' x')) (b := r) (by rw [e2]; rfl) (by rw [hmid]; rfl) (w' := { w with heap := w.heap.setIfInBounds r es' }) f2 (by simp) rfl rfl rfl (fun hk => by
           obtain ⟨esA, cl, rfl, hmr'⟩ := hrep _ hk; exact ⟨r, esA, cl, e2, f1, hmr'⟩)
          obtain ⟨g3, g4⟩ := g1.weaken (N' := Nx N fr) (fun _ k => k.1); refine lA2 hrun ⟨σ, ?_, ?_, ?_, trivial⟩ <;> simp only [hmm]
          · exact g3
          · exact ⟨(q2.k.trans g2.k (Nat.le_refl _)).trans g4.k (by simp [rx]), fun _ _ => rfl, fun _ k => k.1⟩
          · unfold repA repC; trivial
         rcases nA7 (x := rx cx σ N M w) k' l es.toList hmr with ⟨g1, g2, g3⟩ | ⟨pre, e, post, k2, ks2, v2, vs2, g1, g2, g3, g4, g5, g6, g7, g8, g9⟩
         · have hf := tA2 (P := P) (w := w) (x := rx cx σ N M w) hK hroM es.toList [] g2 (.inl rfl); rw [List.append_nil] at hf; refine fin (.map (es.push { key := mkV ka kvs, val := mkV va vvs, born := clock }) (clock + 1)) ?_ (fun y hk => ⟨_, _, rfl, ?_, by rw [Array.toList_push]; exact hsp.push rfl (vB8 hroM g2)⟩)
           · simp [execOp, ho, Instr.mapUpdate, run_underlying hu, e1, e2, e3, e4, e5, hck, hf, getObj, setObj, Sem.run]
           · rw [g3, Array.toList_push]; exact lA5 _ _ _ _ (cA3 hk _ _ hmr) ⟨_, [], kvs, vvs, rfl, rfl, hA0 hk.k _ _ _ hroM, rfl, hA0 hk.k _ _ _ hrov, rfl⟩
         · have hf := tA2 (P := P) (w := w) (x := rx cx σ N M w) hK hroM pre (e :: post) g2 (.inr ⟨e, post, rfl, ⟨k2, ks2, g3, g4, g5⟩⟩); rw [← g1] at hf; have hk2 : k' = k2 := cB1 kt _ c3 k' k2 g5; subst hk2; have hks : ks2 = kvs := sC1 kt _ c3 k' ks2 kvs g4 hroM; subst hks; have hlt : pre.length < es.size := by
            have : es.toList.length = es.size := by simp
            rw [← this, g1]; simp
           have hget : es[pre.length]? = some e := by
            have : es.toList[pre.length]? = some e := by rw [g1]; simp
            simpa using this
           have hstay : (Instr.keyThatStays (mkV ka ks2) (mkV ka ks2)).run P w = .ok (mkV ka ks2) w := by
            have : Instr.sameBits 10000 (mkV ka ks2) (mkV ka ks2) = true := by
             have hsc := cA6 kt _ c3 k' ks2 hroM
             cases ka with
             | true => exact sB2 hsc 9999
             | false =>
               have hn1 : kt.n = 1 := by rw [(htk.ty kt c1).1]; exact htk.one (by rw [← c10])
               have hl := qA0 kt k' ks2 hroM; rw [hn1] at hl
               match ks2, hl with
               | [u], _ => exact rA5 (hsc u (by simp)) 10000
            simp [Instr.keyThatStays, this]
           refine fin (.map (es.modify pre.length fun e => { e with key := mkV ka ks2, val := mkV va vvs }) clock) ?_ (fun y hk => ⟨_, _, rfl, ?_, by rw [Array.toList_modify, g1, bA6]; rw [g1] at hsp; exact hsp.mid rfl g3.symm⟩)
           · simp [execOp, ho, Instr.mapUpdate, run_underlying hu, e1, e2, e3, e4, e5, hck, hf, getObj, setObj, Sem.run, hget, g3, hstay]
           · rw [Array.toList_modify, g1, bA6]; exact g9 y hk x' _ ks2 vvs rfl (hA0 hk.k _ _ _ hroM) rfl (hA0 hk.k _ _ _ hrov)
       · exact hp.elim
     · exact hp.elim
   · exact hp.elim
 · exact hp.elim
/-! ### slices built -/
theorem sB1 {size : Nat} (hpos : 0 < size) : ∀ (vs : List Value) (k : Nat) (done rest : List Value), done.length = k * size → rest.length = vs.length * size → (∀ v ∈ vs, v.cells.size = size) →
 Instr.fill (fun i => some (i * size, size)) (done ++ rest).toArray ((vs.zipIdx k).map fun p => (p.2, p.1)) = some (done ++ vs.flatMap fun v => v.cells.toList).toArray
 | [], k, done, rest, hd, hr, _ => by
   have : rest = [] := List.eq_nil_of_length_eq_zero (by simpa using hr); subst this
   rfl
 | v :: vs, k, done, rest, hd, hr, hs => by
   have hv := hs v List.mem_cons_self; have hvl : v.cells.toList.length = size := by simpa using hv
   have hr' : rest.length = vs.length * size + size := by rw [hr, List.length_cons, Nat.add_mul, Nat.one_mul]
   simp only [List.zipIdx_cons, List.map_cons]; rw [vB3 (fun i => some (i * size, size)) (done ++ rest) k v _ rfl hv (by simp; omega)]; have h1 : (done ++ rest).take (k * size) = done := by rw [← hd]; exact List.take_left
   have h2 : (done ++ rest).drop (k * size + v.cells.toList.length) = rest.drop size := by rw [hvl, ← hd, ← List.drop_drop, List.drop_left]
   rw [h1, h2, sB1 hpos vs (k + 1) (done ++ v.cells.toList) (rest.drop size) (by simp [hd, hv, Nat.add_mul]) (by simp; omega) (fun u hu => hs u (List.mem_cons_of_mem _ hu))]; simp
theorem pA5 {M : Mem} (q1 : RepM cx σ N M w) {e : TypeId} {u : Ty} (hsz : u.n = (TI.of T e).size) (hpos : 0 < u.n) : ∀ (avs : List AV) (pv : List Value) (xs : List u.den), seqO (avs.map fun v => if v.cells.length = (TI.of T e).size ∧ v.cells.all known = true then impl M u v.cells else none) = some xs →
 repAs (rx cx σ N M w) avs pv → (∀ a ∈ avs, ∀ id ∈ rowsOf a.cells, own (M id) = false) → roAll (ro w (Owned cx σ M) u) xs (pv.flatMap fun v => v.cells.toList) ∧ (∀ v ∈ pv, v.cells.size = u.n) ∧ pv.length = xs.length
 | [], pv, xs, hs, hr, _ => by
   unfold repAs at hr; subst hr; simp [seqO] at hs; subst hs
   exact ⟨rfl, (fun v hv => by cases hv), rfl⟩
 | a :: avs, pv, xs, hs, hr, hno => by
   unfold repAs at hr; obtain ⟨v, r, rfl, ha, hr'⟩ := hr; simp only [List.map_cons] at hs; split at hs
   · rename_i hc
     cases hi : impl M u a.cells with
     | none => rw [hi] at hs; simp [seqO] at hs
     | some y =>
       rw [hi] at hs; simp only [seqO] at hs; split at hs
       · rename_i ys hys; simp at hs; subst hs; obtain ⟨h1, h2, h3⟩ := pA5 q1 hsz hpos avs r ys hys hr' (fun a ha => hno a (List.mem_cons_of_mem _ ha)); have hac := fA3 (x := rx cx σ N M w) q1.hone ha hc.2 (bB5 hi hpos); have hro := rA2 q1 u a.cells y _ hi hac (hno a List.mem_cons_self); have hl := qA0 u y _ hro; refine ⟨⟨v.cells.toList, r.flatMap fun v => v.cells.toList, by simp, hro, h1⟩, fun v' hv' => ?_, by simp [h3]⟩
         cases List.mem_cons.1 hv' with
         | inl e => subst e; simpa using hl
         | inr e => exact h2 v' e
       · cases hs
   · simp [seqO] at hs
theorem mA4 {x : Rx} {av : Operand → AV} {ρ : Operand → Value} : ∀ l : List Operand, (∀ y ∈ l, repA x (av y) (ρ y)) → repAs x (l.map av) (l.map ρ)
 | [], _ => by unfold repAs; rfl
 | y :: l, h => by
   simp only [List.map_cons]; unfold repAs; exact ⟨_, _, rfl, h y List.mem_cons_self, mA4 l (fun z hz => h z (List.mem_cons_of_mem _ hz))⟩
theorem vA7 {α β : Type} (f : β → α) : ∀ (l : List (Nat × β)) (k : Nat), l.map (·.1) = List.range' k l.length → l.map (fun p => (p.1, f p.2)) = ((l.map fun p => f p.2).zipIdx k).map fun p => (p.2, p.1)
 | [], _, _ => rfl
 | (i, b) :: l, k, h => by
   simp only [List.map_cons, List.length_cons, List.range'_succ, List.cons.injEq] at h; obtain ⟨rfl, h2⟩ := h; simp [vA7 f l (i + 1) h2]
theorem kB3 (h : RepM cx σ N m w) (hfr : ∀ id, fr ≤ id → id < fr + 32 → N id) {t : TypeId} {len : Nat} {parts : Array (Nat × Operand)} (h7 : ¬ wfOf G o.dst = 7) (h8 : ¬ 8 ≤ wfOf G o.dst) (ho : o.op = .buildSlice t len parts) (ht : TabOK P T)
 (hx : ∀ x ∈ opsOf o.op, repA (rx cx σ N m w) (av x) (ρ x)) (hp : (opEff T G o ((opsOf o.op).map av) m fr).pre) : Runs P w (Res cx σ N m w fr (opEff T G o ((opsOf o.op).map av) m fr)) ((execOp ρ o).run P w) := by
 rw [ho] at hx hp ⊢; simp only [opEff, ho, opsOf] at hx hp ⊢; split at hp
 · rename_i e hd; rw [if_neg h7, if_neg h8] at hp ⊢; split at hp
   · rename_i u hty; split at hp
     · rename_i xs hbp; split at hp
       · rename_i hc; unfold seqIdx at hc; obtain ⟨c1, c2, c3⟩ := of_decide_eq_true hc; have hu := (TI.of_ok ht t (fun e => by rw [e] at hd; cases hd)).slice e hd; have hte := TI.of_ok ht e (fun k => by rw [k] at hty; cases hty); obtain ⟨i, hi, hs, hby, z, hz, hzs, _⟩ := hte.info; obtain ⟨hun, hpos, _⟩ := hte.ty u hty; have hreps := mA4 (x := rx cx σ N m w) _ hx; have hids : ((parts.toList.map (·.2)).map av).flatMap (fun v => (rowsOf v.cells).map (settle m)) = (((parts.toList.map (·.2)).map av).flatMap fun v => rowsOf v.cells).map (settle m) := by
          rw [List.map_flatMap]
         simp only [hids]; generalize hids' : ((parts.toList.map (·.2)).map av).flatMap (fun v => rowsOf v.cells) = ids at *; obtain ⟨q1, q2⟩ := h.settles ids; have hbp' : seqO (((parts.toList.map (·.2)).map av).map fun v => if v.cells.length = (TI.of T e).size ∧ v.cells.all known = true then impl (updM m (ids.map (settle m))) u v.cells else none) = some xs := by
          rw [← hbp]; unfold buildParts; congr 2; funext v; rw [cA2]
         have hown : ∀ a ∈ (parts.toList.map (·.2)).map av, ∀ id ∈ rowsOf a.cells, own (updM m (ids.map (settle m)) id) = false := by
          intro a ha id hid; have hmem : id ∈ ids := by rw [← hids']; exact List.mem_flatMap.2 ⟨a, ha, hid⟩
          have : ∃ y, impl m u a.cells = some y := by
           have key : ∀ (l : List AV) (ys : List u.den), seqO (l.map fun v => if v.cells.length = (TI.of T e).size ∧ v.cells.all known = true then impl m u v.cells else none) = some ys → ∀ a ∈ l, ∃ y, impl m u a.cells = some y := by
            intro l
            induction l with
            | nil => intro _ _ a ha; cases ha
            | cons b l ih =>
              intro ys hys a ha; simp only [List.map_cons] at hys; split at hys
              · cases hb : impl m u b.cells with
                | none => rw [hb] at hys; simp [seqO] at hys
                | some y =>
                  rw [hb] at hys; simp only [seqO] at hys; split at hys
                  · rename_i r hr
                    cases List.mem_cons.1 ha with
                    | inl e => subst e; exact ⟨y, hb⟩
                    | inr e => exact ih r hr a e
                  · cases hys
              · simp [seqO] at hys
           exact key _ xs hbp a ha
          obtain ⟨y, hy⟩ := this; rw [zA0 m ids m id (fun _ _ => .inl rfl), if_pos hmem, oA3]; obtain ⟨v, ys, hm | ⟨ee, hm⟩⟩ := aA2 _ _ _ hy id hid <;> simp [hm, own]
         have hreps' := kA3 q2 _ _ hreps; obtain ⟨b1, b2, b3⟩ := pA5 (T := T) q1 hun (by omega) _ _ xs hbp' hreps' hown; have hplen : parts.toList.length = len := by simpa using c3
         have hxl : xs.length = len := by rw [← b3]; simpa using hplen
         have hfill := sB1 (size := i.size) (by omega) ((parts.toList.map (·.2)).map ρ) 0 [] ((Array.range (len * i.size)).map (z.cells[· % z.cells.size]!)).toList (by simp) (by simp [hplen]) (fun v hv => by rw [b2 v hv]; omega); rw [List.nil_append, List.nil_append, Array.toArray_toList] at hfill; have hpe := vA7 ρ parts.toList 0 (by rw [c1, hplen, List.range_eq_range']); have hrun : (execOp ρ o).run P w = .ok (.value (.slice (some ⟨w.heap.size, 0, none⟩) len len)) (w.alloc (.cells (((parts.toList.map (·.2)).map ρ).flatMap fun v => v.cells.toList).toArray e)) := by
          have h16 : ¬ (len * i.size > 2 ^ 24) := by rw [hs]; omega
          have hmm : (parts.toList.map (·.2)).map ρ = parts.toList.map fun p => ρ p.2 := by simp
          rw [hmm] at hfill ⊢; rw [← hpe] at hfill; by_cases h0 : len * i.size = 0
          · have hz0 : ∀ f : Nat → Value, (Array.range (len * i.size)).map f = #[] := by intro f; rw [h0]; simp
            rw [hz0] at hfill; have hz1 : ∀ f : Nat → Value, (Array.range 0).map f = #[] := by intro f; simp
            simp [execOp, ho, Instr.buildSlice, run_underlying hu, tA0 hi, h0, hz1, hfill, newRow]
          · simp [execOp, ho, Instr.buildSlice, run_underlying hu, tA0 hi, h0, h16, wA0 hi hz, hfill, newRow]
         have hfl := nA0 (fun x c => qA0 u x c) _ _ b1; have hlm : len ≤ maxLen := by
          have := Nat.le_mul_of_pos_right len hpos; simp only [maxLen]; omega
         have := eA9 (cx := cx) (w := w) (e := e) (t := u) (xs := xs) (cap := len) (p := True) (q := True) q2 q1 (hfr fr (by omega) (by omega)) (fun id hid _ => hid)
          (oA1 w (.cells (((parts.toList.map (·.2)).map ρ).flatMap fun v => v.cells.toList).toArray e)) (heap_alloc_new w _) b1 (by omega) hlm (by rw [List.size_toArray, hfl, hxl]) (by
            show List.take _ (List.flatMap _ _) = _; rw [← hfl]; exact List.take_length) trivial rfl
         rw [hxl] at this; exact bA0 hrun this
       · exact hp.elim
     · exact hp.elim
   · exact hp.elim
 · exact hp.elim
end
end Go.Ev

namespace Go.Ev
section
variable {cx : Cx} {σ : Nat → Value} {N : Nat → Prop} {m : Mem} {w : World} {P : Program} {T : Tab} {G : Env} {o : Oper} {fr : Nat} {ρ : Operand → Value} {av : Operand → AV}
theorem bA7 {α β : Type} : ∀ (xs : List α) (ys : List β) (i : Nat) (x : α) (y : β), (xs.set i x).zip (ys.set i y) = (xs.zip ys).set i (x, y)
 | [], _, _, _, _ => by simp
 | _ :: _, [], i, _, _ => by cases i <;> simp
 | a :: xs, b :: ys, 0, _, _ => by simp
 | a :: xs, b :: ys, i + 1, x, y => by simp [bA7 xs ys i x y]
theorem bB2 {α : Type} {xs : List α} {i : Nat} (h : i < xs.length) : xs.set i xs[i] = xs := by
 apply List.ext_getElem?; intro j; rw [List.getElem?_set]; split
 · rename_i e; subst e; simp [h]
 · rfl
theorem uA1 (vs : List Value) (h : Option Nat) : (holed vs h).length = vs.length := by cases h <;> simp [holed]
theorem gB8 {x : Rx} {t : Ty} {p : Nat} {xs : List t.den} {hs : List (Option Value)} {flat : List Value} (h : roAll (elG x t p) (xs.zip hs) flat) (hl : hs.length = xs.length) {i : Nat} (hi : i < xs.length) :
 ∃ pre c post, flat = pre ++ (c ++ post) ∧ pre.length = i * t.n ∧ elG x t p (xs[i], hs[i]'(by omega)) c ∧ roAll (elG x t p) ((xs.zip hs).take i) pre ∧ roAll (elG x t p) ((xs.zip hs).drop (i + 1)) post := by
 obtain ⟨pre, c, post, h1, h2, h3, h4, h5⟩ := sA2 (fun q c => rB0 (x := x) (t := t) (p := p) q c) h (i := i) (by simp; omega); rw [List.getElem_zip] at h3; exact ⟨pre, c, post, h1, h2, h3, h4, h5⟩
theorem qC7 {x : Rx} {t : Ty} {p : Nat} {y : t.den} {q : Option Value} {c : List Value} (h : elG x t p (y, q) c) : elG x t p (y, none) c :=
 ⟨h.1, fun v e => (by cases e), h.2.2.1, h.2.2.2⟩
theorem fD0 {x : Rx} {e : TypeId} {t : Ty} {xss : List (List t.den)} {vs : List Value} (k : famRep x e t xss vs) {i : Nat} {v : Value} (h : vs[i]? = some v) : v.oneCell' = true ∧ ∃ a n c, v = .slice a n c := by
 have hi := (List.getElem?_eq_some_iff.1 h).1; have hi2 : i < xss.length := by rw [← k.len]; exact hi
 obtain ⟨h1, flat, h2, _⟩ := k.row i xss[i] v (List.getElem?_eq_getElem hi2) h
 rcases h2.2 with ⟨_, a, e1⟩ | ⟨g, cap, cur, _, e1, _⟩
 · exact ⟨h1, _, _, _, e1⟩
 · exact ⟨h1, _, _, _, e1⟩
theorem vB7 (h : RepM cx σ N m w) (hfr : ∀ id, fr ≤ id → id < fr + 32 → N id) {id fid : Nat} {e e2 : TypeId} {t u : Ty} {p : Nat} {xs : List t.den} {xss : List (List u.den)} (hn : ¬ N id) (hm : m id = .rowg e t p fid xs none) (hf : m fid = .fam e2 u xss) {i : Nat} (hi : i < xs.length) {pr q : Prop} (hq : q) :
 ∃ v, (∀ b n c, σ id = .slice (some ⟨b, 0, none⟩) n c → w.cell? ⟨b, i * t.n + p, none⟩ = some v) ∧ v.oneCell' = true ∧ (∃ a c, v = .slice a (xss.getD i []).length c ∧ (xss.getD i []).length ≤ c ∧ c ≤ maxLen ∧ (a = none → (xss.getD i []).length = 0)) ∧
 Res cx σ N m w fr ⟨pr, .one (.row fr), [(fid, .dead), (id, .rowg e t p (fr + 1) xs (some i)), (fr + 1, .fam e2 u (xss.set i [])), (fr, .row e2 u (xss.getD i []))], q⟩ v w := by
 have hb := h.blk id; rw [hm] at hb; obtain ⟨f, vs, flat, b1, b2, b3, b4, b5⟩ := hb; simp only [rx] at b1 b2 b4; have hb2 := h.blk fid; rw [hf] at hb2; obtain ⟨f', vs', c1, c2⟩ := hb2; simp only [rx] at c1; rw [b2] at c1; cases c1; have n0 : N fr := hfr fr (by omega) (by omega); have n1 : N (fr + 1) := hfr (fr + 1) (by omega) (by omega); have ne1 : id ≠ fid := fun k => by rw [k, hf] at hm; cases hm
 have ne2 : id ≠ fr := fun k => hn (k ▸ n0); have ne3 : id ≠ fr + 1 := fun k => hn (k ▸ n1); have ne4 : fid ≠ fr := fun k => b1 (k ▸ n0); have ne5 : fid ≠ fr + 1 := fun k => b1 (k ▸ n1); have ne6 : fr + 1 ≠ fr := by omega
 have oid : own (m id) = true := by rw [hm]; rfl
 have ofid : own (m fid) = true := by rw [hf]; rfl
 have hxl : xss.length = xs.length := by rw [← b3]; exact c2.len.symm
 have hiv : i < vs.toList.length := by omega
 obtain ⟨v, hv⟩ : ∃ v, vs.toList[i]? = some v := ⟨_, List.getElem?_eq_getElem hiv⟩; have hxi : xss[i]? = some (xss.getD i []) := by rw [List.getD_eq_getElem?_getD, List.getElem?_eq_getElem (by omega)]; rfl
 obtain ⟨r1, fl0, r2, r3⟩ := c2.row i _ v hxi hv; obtain ⟨pre, c, post, e1, e3, e4, e5, e6⟩ := gB8 b5 (by rw [uA1]; exact b3) hi; have hcv : c[p]? = some v := e4.2.1 v (by
  have hh : (holed vs.toList none)[i]? = some (some v) := by simp only [holed, List.getElem?_map, hv, Option.map_some]
  rw [List.getElem?_eq_getElem (by rw [uA1]; omega)] at hh; simpa using hh)
 have hlc : c.length = t.n := rB0 _ _ e4; refine ⟨v, fun b n cc hs => ?_, r1, ?_, ?_⟩
 · have h0 : blkOf (σ id) = some b := by
    rcases b4.2 with ⟨k0, _⟩ | ⟨g, cap, cur, hz, q1, _⟩
    · omega
    · rw [q1] at hs ⊢; cases hs; exact gA0 hz
   have := hA1 b4 h0 (i * t.n + p) v (by
    rw [e1, List.getElem?_append_right (by omega), e3, Nat.add_sub_cancel_left, List.getElem?_append_left e4.1]; exact hcv)
   exact this
 · rcases r2.2 with ⟨k0, a, q1⟩ | ⟨g, cap, cur, hz, q1, _, q2, q3, _⟩
   · exact ⟨a, 0, by rw [k0]; exact q1, by omega, by simp [maxLen], fun _ => k0⟩
   · exact ⟨_, cap, q1, q2, q3, fun k => by cases k⟩
 have hbf : ∀ (j : Nat) q b, vs.toList[j]? = some q → blkOf q = some b → hb (σ fid) b := fun j q b hq hb => by rw [b2]; exact hb_fam.2 ⟨q, List.mem_of_getElem? hq, hb⟩
 have hvs : ∃ a n c, v = .slice a n c := (fD0 c2 hv).2; have hvb : ∀ b, hb v b → blkOf v = some b := fun b hb => by
  obtain ⟨a, n, c, e⟩ := hvs; rw [e] at hb ⊢; exact hb_slice.1 hb
 let vs2 := vs.toList.set i (.slice none 0 0)
 have hv2 : ∀ j q, vs2[j]? = some q → (j = i ∧ q = .slice none 0 0) ∨ (j ≠ i ∧ vs.toList[j]? = some q) := fun j q hq => by
  simp only [vs2] at hq; rw [List.getElem?_set] at hq; by_cases hij : i = j
  · subst hij; rw [if_pos rfl, if_pos hiv] at hq; exact .inl ⟨rfl, by simpa using hq.symm⟩
  · rw [if_neg hij] at hq; exact .inr ⟨fun e => hij e.symm, hq⟩
 have nb : ∀ b, blkOf (.slice none 0 0) ≠ some b := fun b => by simp [blkOf]
 let m' : Mem := upd (upd (upd (upd m fid .dead) id (.rowg e t p (fr + 1) xs (some i))) (fr + 1) (.fam e2 u (xss.set i []))) fr (.row e2 u (xss.getD i []))
 let σ' : Nat → Value := upd (upd σ (fr + 1) (.func (.func 0) #[] vs2.toArray)) fr v
 have m1 : m' fid = .dead := by simp only [m']; rw [iA0 _ _ ne4, iA0 _ _ ne5, iA0 _ _ (fun k => ne1 k.symm), upd_same]
 have m2 : m' id = .rowg e t p (fr + 1) xs (some i) := by simp only [m']; rw [iA0 _ _ ne2, iA0 _ _ ne3, upd_same]
 have m3 : m' (fr + 1) = .fam e2 u (xss.set i []) := by simp only [m']; rw [iA0 _ _ ne6, upd_same]
 have m4 : m' fr = .row e2 u (xss.getD i []) := upd_same _ _ _; have m5 : ∀ j, j ≠ id → j ≠ fid → j ≠ fr → j ≠ fr + 1 → m' j = m j := fun j h1 h2 h3 h4 => by simp only [m']; rw [iA0 _ _ h3, iA0 _ _ h4, iA0 _ _ h1, iA0 _ _ h2]
 have s1 : σ' fr = v := upd_same _ _ _; have s2 : σ' (fr + 1) = .func (.func 0) #[] vs2.toArray := by simp only [σ']; rw [iA0 _ _ ne6, upd_same]
 have s3 : ∀ j, j ≠ fr → j ≠ fr + 1 → σ' j = σ j := fun j h1 h2 => by simp only [σ']; rw [iA0 _ _ h1, iA0 _ _ h2]
 have kfr : ∀ b, hb (σ' fr) b → blkOf v = some b ∧ hb (σ fid) b := fun b hbb => by
  rw [s1] at hbb; exact ⟨hvb b hbb, hbf i v b hv (hvb b hbb)⟩
 have kf1 : ∀ b, hb (σ' (fr + 1)) b → ∃ j q, j ≠ i ∧ vs.toList[j]? = some q ∧ blkOf q = some b := fun b hbb => by
  rw [s2, hb_fam] at hbb; obtain ⟨q, hq, hqb⟩ := hbb; obtain ⟨j, hj, rfl⟩ := List.getElem_of_mem hq; have hj2 := List.getElem?_eq_getElem hj; simp only [List.toList_toArray] at hj2 hj hqb
  rcases hv2 j _ hj2 with ⟨_, h2⟩ | ⟨h1, h2⟩
  · rw [h2] at hqb; exact absurd hqb (nb b)
  · exact ⟨j, _, h1, h2, hqb⟩
 have kf2 : ∀ b, hb (σ' (fr + 1)) b → hb (σ fid) b := fun b hbb => by
  obtain ⟨j, q, _, h1, h2⟩ := kf1 b hbb; exact hbf j q b h1 h2
 have kid : ∀ b, hb (σ' id) b → hb (σ id) b := fun b hbb => by rw [s3 id ne2 ne3] at hbb; exact hbb
 have kx : ∀ b, hb (σ' fr) b → hb (σ' (fr + 1)) b → False := fun b h1 h2 => by
  obtain ⟨j, q, hji, g1, g2⟩ := kf1 b h2; exact hji (c2.inj j i q v b g1 hv g2 (kfr b h1).1)
 obtain ⟨k1, k2⟩ := h.step (σ' := σ') (N' := Nx N fr) (m' := m') (w' := w) (fun j => j = id ∨ j = fid ∨ j = fr ∨ j = fr + 1) (fun j k => k.1)
  (fun j k => by
    have h1 : j ≠ fr := fun e => k.2 ⟨by omega, by omega⟩; have h2 : j ≠ fr + 1 := fun e => k.2 ⟨by omega, by omega⟩; rw [m5 j (fun e => hn (e ▸ k.1)) (fun e => b1 (e ▸ k.1)) h1 h2]; exact h.fresh j k.1)
  (fun j k => by simp only [not_or] at k; exact ⟨m5 j k.1 k.2.1 k.2.2.1 k.2.2.2, s3 j k.2.2.1 k.2.2.2⟩)
  (fun j k => s3 j (fun e => k (e ▸ n0)) (fun e => k (e ▸ n1)))
  (fun b _ _ => rfl) ⟨Nat.le_refl _, Nat.le_refl _⟩ rfl rfl rfl
  (fun j b hi ho hbb => by
    rcases hi with rfl | rfl | rfl | rfl
    · exact .inr ⟨_, .inl rfl, oid, kid b hbb⟩
    · rw [m1] at ho; cases ho
    · exact .inr ⟨fid, .inr (.inl rfl), ofid, (kfr b hbb).2⟩
    · exact .inr ⟨fid, .inr (.inl rfl), ofid, kf2 b hbb⟩)
  (fun j j' b hi hi' ho ho' hb1 hb2 => by
    rcases hi with rfl | rfl | rfl | rfl <;> rcases hi' with rfl | rfl | rfl | rfl
    · rfl
    · rw [m1] at ho'; cases ho'
    · exact absurd (h.inj _ _ b oid ofid (kid b hb1) (kfr b hb2).2) ne1
    · exact absurd (h.inj _ _ b oid ofid (kid b hb1) (kf2 b hb2)) ne1
    · rw [m1] at ho; cases ho
    · rfl
    · rw [m1] at ho; cases ho
    · rw [m1] at ho; cases ho
    · exact absurd (h.inj _ _ b oid ofid (kid b hb2) (kfr b hb1).2) ne1
    · rw [m1] at ho'; cases ho'
    · rfl
    · exact (kx b hb1 hb2).elim
    · exact absurd (h.inj _ _ b oid ofid (kid b hb2) (kf2 b hb1)) ne1
    · rw [m1] at ho'; cases ho'
    · exact (kx b hb2 hb1).elim
    · rfl)
  (fun j hi => by
    rcases hi with rfl | rfl | rfl | rfl
    · rw [s3 _ ne2 ne3]; exact h.hone _
    · rw [s3 _ ne4 ne5]; exact h.hone _
    · rw [s1]; exact r1
    · rw [s2]; rfl)
  (fun hk j hi => by
    rcases hi with rfl | rfl | rfl | rfl
    · rw [m2]; refine ⟨.func 0, vs2.toArray, flat, fun k => k.2 ⟨by omega, by omega⟩, s2, by simp only [vs2, List.toList_toArray, List.length_set]; exact b3, by simp only [rx]; rw [s3 _ ne2 ne3]; exact b4, ?_⟩; simp only [List.toList_toArray, holed, vs2, List.map_set, List.set_set]; have hz : xs.zip ((vs.toList.map some).set i none) = (xs.zip (holed vs.toList none)).set i (xs[i], none) := by
       rw [← bA7, bB2 hi]; rfl
      rw [hz, e1]; exact nA4 (by rw [List.length_zip, uA1]; omega) (fA0 (fA1 hk.k) _ _ e5) (fA1 hk.k _ _ (qC7 e4)) (fA0 (fA1 hk.k) _ _ e6)
    · rw [m1]; trivial
    · rw [m4]; refine ⟨_, fl0, rfl, by simp only [rx]; rw [s1]; exact r2, fA0 (hA0 hk.k u) _ _ r3⟩
    · rw [m3]; refine ⟨.func 0, vs2.toArray, s2, ?_⟩; simp only [List.toList_toArray]; refine ⟨by simp only [vs2, List.length_set]; exact c2.len, fun j ys q h1 h2 => ?_, fun j j2 q q2 b h1 h2 h3 h4 => ?_⟩
      · rcases hv2 j q h2 with ⟨hj, hq⟩ | ⟨hj, hq⟩
        · subst hj hq; rw [List.getElem?_set, if_pos rfl, if_pos (by omega)] at h1; simp only [Option.some.injEq] at h1; subst h1; exact ⟨rfl, [], oA2 _ _ _ _, rfl⟩
        · rw [List.getElem?_set, if_neg (fun e => hj e.symm)] at h1; obtain ⟨g1, fl, g2, g3⟩ := c2.row j ys q h1 hq; exact ⟨g1, fl, g2, fA0 (hA0 hk.k u) _ _ g3⟩
      · rcases hv2 j q h1 with ⟨hj, hq⟩ | ⟨hj, hq⟩
        · rw [hq] at h3; exact absurd h3 (nb b)
        · rcases hv2 j2 q2 h2 with ⟨hj2, hq2⟩ | ⟨hj2, hq2⟩
          · rw [hq2] at h4; exact absurd h4 (nb b)
          · exact c2.inj j j2 q q2 b hq hq2 h3 h4)
 refine ⟨σ', k1, k2, ?_, hq⟩; unfold repA repC; exact ⟨fun k => k.2 ⟨by omega, by omega⟩, s1.symm⟩
end
end Go.Ev

namespace Go.Ev
section
variable {cx : Cx} {σ : Nat → Value} {N : Nat → Prop} {m : Mem} {w : World} {P : Program} {T : Tab} {G : Env} {o : Oper} {fr : Nat} {ρ : Operand → Value} {av : Operand → AV}
theorem fA6 {e : TypeId} {s n n' c' b : Nat} {flat : List Value} (k : RowR w e s (.slice (some ⟨b, 0, none⟩) n' c') n flat) (hn : 0 < n) {t : TypeId} {ii : TypeInfo} (hii : P.info? t = some ii) {off : Nat} {v : Value} (hl : v.cells.size = ii.size) (h1 : oneAll v.cells.toList) (hfit : off + ii.size ≤ flat.length) :
 ∃ w', (storeVar t ⟨b, off, none⟩ v).run P w = .ok () w' ∧ (∀ j, j ≠ b → w'.heap[j]? = w.heap[j]?) ∧ (w.heap.size ≤ w'.heap.size ∧ w.drawn ≤ w'.drawn) ∧ w'.os = w.os ∧ w'.tape = w.tape ∧ w'.output = w.output ∧ blkOf (.slice (some ⟨b, 0, none⟩) n' c') = some b ∧
   RowR w' e s (.slice (some ⟨b, 0, none⟩) n' c') n (flat.take off ++ v.cells.toList ++ flat.drop (off + v.cells.toList.length)) := by
 obtain ⟨hfl0, k2⟩ := k
 rcases k2 with ⟨e4, _⟩ | ⟨g, cap, cur, hz, e3, hg, hlc, hcm, hcs, htake⟩
 · omega
 · simp only [Value.slice.injEq, Option.some.injEq, Addr.mk.injEq, and_true] at e3; obtain ⟨rfl, rfl, rfl⟩ := e3; have hcur : cur.toList = flat ++ cur.toList.drop (n' * s) := by
    conv => lhs; rw [← List.take_append_drop (n' * s) cur.toList, htake]
   have hcz : cur.size = cur.toList.length := by simp
   have hcl : cur.toList.length = flat.length + (cur.toList.drop (n' * s)).length := by
    conv => lhs; rw [hcur]
    simp only [List.length_append]
   have hvl : v.cells.toList.length = ii.size := by simpa using hl
   have hst := zA1 (P := P) (w := w) (t := t) hii (off := off) hg hl h1 (by omega); generalize cur.toList.drop (n' * s) = rest at *; have hnc : cur.toList.take off ++ v.cells.toList ++ cur.toList.drop (off + v.cells.toList.length) = (flat.take off ++ v.cells.toList ++ flat.drop (off + v.cells.toList.length)) ++ rest := by
    rw [hcur, List.take_append_of_le_length (by omega), List.drop_append_of_le_length (by omega)]; simp
   rw [hnc] at hst; have hlen : (flat.take off ++ v.cells.toList ++ flat.drop (off + v.cells.toList.length)).length = flat.length := by
    simp only [List.length_append, List.length_take, List.length_drop]; omega
   generalize flat.take off ++ v.cells.toList ++ flat.drop (off + v.cells.toList.length) = nf at *; refine ⟨_, hst, fun j hj => setRow_other w b j _ hj, ⟨by simp, Nat.le_refl _⟩, rfl, rfl, rfl, gA0 hz, by omega, .inr ⟨b, c', _, hz, rfl, setRow_heap w b cur _ e (0, 0) hg, hlc, hcm, by
    rw [List.size_toArray, ← hcs, hcz, hcl, List.length_append]; omega, by
    rw [← hfl0, ← hlen]; exact List.take_left⟩⟩
theorem lC4 {v : Value} (h : v.oneCell' = true) : v.cells = #[v] := by cases v <;> first | rfl | (simp [Value.oneCell'] at h)
theorem bA9 {t : TypeId} {x : Operand} (ho : o.op = .load t x) (ht : TabOK P T) (hs : (TI.of T t).size = 1) (ha : (TI.of T t).agg = false) {b q : Nat} {v : Value} (e1 : ρ x = .pointer (some ⟨b, q, none⟩)) (hc : w.cell? ⟨b, q, none⟩ = some v) :
 (execOp ρ o).run P w = .ok (.value v) w := by
 have := gA1 (P := P) (w := w) (b := b) (o := q) (vs := [v]) (TI.of_ok ht t (wA6 (by omega))) (by simp [hs]) (fun j u hu => by
  match j, hu with
  | 0, hu => simp at hu; rw [← hu]; exact hc)
 simp [execOp, ho, Instr.loadAt, Instr.sureAddr, e1, this, ha]
theorem uC7 (h : RepM cx σ N m w) {id fid : Nat} {e e2 : TypeId} {t u : Ty} {p : Nat} {xs : List t.den} {xss : List (List u.den)} (hn : ¬ N id) (hm : m id = .rowg e t p fid xs none) (hf : m fid = .fam e2 u xss) {i : Nat} (hi : i < xs.length) {pr q : Prop} (hq : q) :
 ∃ v, (∀ b n c, σ id = .slice (some ⟨b, 0, none⟩) n c → w.cell? ⟨b, i * t.n + p, none⟩ = some v) ∧ Res cx σ N m w fr ⟨pr, .one (.nst fid i), [], q⟩ v w := by
 have hb := h.blk id; rw [hm] at hb; obtain ⟨f, vs, flat, b1, b2, b3, b4, b5⟩ := hb; simp only [rx] at b1 b2 b4; have hb2 := h.blk fid; rw [hf] at hb2; obtain ⟨f', vs', c1, c2⟩ := hb2; simp only [rx] at c1; rw [b2] at c1; cases c1; have hiv : i < vs.toList.length := by omega
 obtain ⟨v, hv⟩ : ∃ v, vs.toList[i]? = some v := ⟨_, List.getElem?_eq_getElem hiv⟩; obtain ⟨pre, c, post, e1, e3, e4, e5, e6⟩ := gB8 b5 (by rw [uA1]; exact b3) hi; have hcv : c[p]? = some v := e4.2.1 v (by
  have hh : (holed vs.toList none)[i]? = some (some v) := by simp only [holed, List.getElem?_map, hv, Option.map_some]
  rw [List.getElem?_eq_getElem (by rw [uA1]; omega)] at hh; simpa using hh)
 refine ⟨v, fun b n cc hs => ?_, ?_⟩
 · have h0 : blkOf (σ id) = some b := by
    rcases b4.2 with ⟨k0, _⟩ | ⟨g, cap, cur, hz, q1, _⟩
    · omega
    · rw [q1] at hs ⊢; cases hs; exact gA0 hz
   exact hA1 b4 h0 (i * t.n + p) v (by
    rw [e1, List.getElem?_append_right (by omega), e3, Nat.add_sub_cancel_left, List.getElem?_append_left e4.1]; exact hcv)
 · obtain ⟨g1, g2⟩ := h.weaken (N' := Nx N fr) (fun id hid => hid.1); refine ⟨σ, g1, g2, ?_, hq⟩; unfold repA repC; exact ⟨fun k => b1 k.1, f, vs, b2, hv⟩
theorem eB8 {x : Rx} : ∀ (cs : List C1) (vs : List Value), repCs x cs vs → ∀ id ∈ rowsOf cs, ¬ x.N id
 | [], _, _, id, hid => by cases hid
 | c :: cs, vs, h, id, hid => by
   obtain ⟨v, r, rfl, h1, h2⟩ := repCs_cons.1 h; have rest := eB8 cs r h2
   cases c <;> simp only [rowsOf] at hid <;> first
    | exact rest id hid
    | (rcases List.mem_cons.1 hid with rfl | hid
       · unfold repC at h1; exact h1.1
       · exact rest id hid)
theorem cB6 : ∀ (ids : List Nat) (m : Mem) (u : Heap), RepM cx σ N m w → sealHs ids m = some u → (∀ id ∈ ids, ¬ N id) → RepM cx σ N (updM m u) w ∧ Rx.Keeps (rx cx σ N m w) (rx cx σ N (updM m u) w)
 | [], m, u, h, hu, _ => by
   cases hu
   exact ⟨h, ⟨Keep.refl _ _, fun _ _ => rfl, fun _ h => h⟩⟩
 | id :: r, m, u, h, hu, hn => by
   unfold sealHs at hu; split at hu
   · rename_i e t p fid xs hm; split at hu
     · rename_i e2 u2 xss hf; split at hu
       · rename_i ht; obtain ⟨l, hl, rfl⟩ := Option.map_eq_some_iff.1 hu; obtain ⟨g1, g2⟩ := bB3 h (hn id List.mem_cons_self) hm hf ht; obtain ⟨g3, g4⟩ := cB6 r _ l g1 hl (fun i hi => hn i (List.mem_cons_of_mem _ hi)); exact ⟨g3, ⟨g2.k.trans g4.k (Nat.le_refl _), fun id hid => (g4.σ id hid).trans (g2.σ id hid), fun id hid => g2.N id (g4.N id hid)⟩⟩
       · cases hu
     · cases hu
   · exact cB6 r m u h hu (fun i hi => hn i (List.mem_cons_of_mem _ hi))
theorem nC9 (h : RepM cx σ N m w) (hfr : ∀ id, fr ≤ id → id < fr + 32 → N id) {t : TypeId} {x : Operand} (ho : o.op = .load t x) (ht : TabOK P T) {id off : Nat} (hx : repC (rx cx σ N m w) (.loc id off) (ρ x))
 (hp : (loadS m (TI.of T t) off (m id)).pre) : Runs P w (Res cx σ N m w fr (loadS m (TI.of T t) off (m id))) ((execOp ρ o).run P w) := by
 cases hm : m id with
 | cells e cs =>
   rw [hm] at hp; simp only [loadS] at hp ⊢; split at hp
   · rename_i hle; rw [if_pos hle]; split at hp
     · rename_i u hu; have hb := h.blk id; rw [hm] at hb; obtain ⟨b', vs, e3, e4, hcs, h1⟩ := hb; simp only [rx] at e3 e4; unfold repC at hx; obtain ⟨hn, b, e1, e2⟩ := hx; simp only [rx] at e1; rw [e1] at e3; simp at e3; subst e3; have hlen := jA0 _ _ hcs; have hd := lA0 (TI.of T t).size _ _ (mA0 off _ _ hcs); have hrow := eB8 _ _ hd; have htt := TI.of_ok ht t (wA6 (by omega)); have hone := htt.one; have hl := gA1 (P := P) (w := w) (b := b) (o := off) (vs := (vs.drop off).take (TI.of T t).size) htt (by simp; omega) (fun j u hu => by
        rw [fB5 e4]; rw [List.getElem?_take] at hu; split at hu
        · rwa [List.getElem?_drop] at hu
        · cases hu)
       have hrun : (execOp ρ o).run P w = .ok (.value (if (TI.of T t).agg then .agg ((vs.drop off).take (TI.of T t).size).toArray else ((vs.drop off).take (TI.of T t).size).getD 0 undef)) w := by
        simp [execOp, ho, Instr.loadAt, Instr.sureAddr, e2, hl]
       obtain ⟨k1, k2⟩ := cB6 _ m u h hu (fun i hi hn => hrow i hi hn); obtain ⟨k3, k4⟩ := k1.weaken (N' := Nx N fr) (fun _ k => k.1); have hra := vA2 (x := rx cx σ N m w) (ag := (TI.of T t).agg) hd (fun hg => by simp; have := hone hg; omega); exact bA0 hrun ⟨σ, k3, ⟨k2.k.trans k4.k (Nat.le_refl _), fun _ _ => rfl, fun _ k => k.1⟩, pA0 k4 _ _ (pA0 k2 _ _ hra), trivial⟩
     · exact hp.elim
   · exact hp.elim
 | _ => rw [hm] at hp; exact hp.elim
theorem qD1 (h : RepM cx σ N m w) (hfr : ∀ id, fr ≤ id → id < fr + 32 → N id) {t : TypeId} {x : Operand} {md : Nat} (ho : o.op = .load t x) (ht : TabOK P T) {c : C1} (hx : repC (rx cx σ N m w) c (ρ x))
 (hp : (loadG m (TI.of T t) md fr c).pre) : Runs P w (Res cx σ N m w fr (loadG m (TI.of T t) md fr c)) ((execOp ρ o).run P w) := by
 unfold loadG at hp ⊢; split at hp
 · rename_i id off
   try simp only []
   split at hp
   · rename_i h11; rw [if_pos h11]; exact nC9 h hfr ho ht hx hp
   · exact hp.elim
 · rename_i id sz i off; split at hp
   · rename_i e t' p fid xs hm; split at hp
     · rename_i hc; rw [if_pos hc]; obtain ⟨rfl, rfl, hs, ha⟩ := hc; unfold repC at hx; obtain ⟨hn, b, n, c, e1, e2⟩ := hx; simp only [rx] at e1 hn; split at hp
       · rename_i hmd; rw [if_pos hmd]; unfold peekG at hp ⊢; split at hp
         · rename_i e2' u xss hf; obtain ⟨h0, h1⟩ := hp; obtain ⟨v, q1, q2, ⟨a, cc, q3, q4, q5, q6⟩, _⟩ := vB7 (pr := True) (q := True) h hfr hn hm hf (i := i.toNat) (by omega) trivial; obtain ⟨g1, g2⟩ := h.put (hfr fr (by omega) (by omega)) v (.lenb (xss.getD i.toNat []).length) w q2 (qA3 w) (fun b ho => by cases ho)
            (fun _ => ⟨a, cc, by simp only [rx]; rw [upd_same]; exact q3, q4, q5, q6⟩) (fun b hb => by rw [q3] at hb ⊢; exact hb_slice.1 hb)
           obtain ⟨g3, g4⟩ := g1.weaken (N' := Nx N fr) (fun id hid => ⟨hid.1, fun e => hid.2 ⟨by omega, by omega⟩⟩); refine bA0 (bA9 ho ht hs ha e2 (q1 b n c e1)) ⟨_, g3, ⟨g2.k.trans g4.k (Nat.le_refl _), fun id hid => g2.σ id hid, fun id hid => hid.1⟩, ?_, trivial⟩; unfold repA repC; exact ⟨fun k => k.2 ⟨by omega, by omega⟩, by simp only [rx]; rw [upd_same]⟩
         · exact hp.elim
       · rename_i hmd; rw [if_neg hmd]; split at hp
         · rename_i hmd5; rw [if_pos hmd5]; unfold lendG at hp ⊢; split at hp
           · rename_i e2' u xss hf; obtain ⟨h0, h1⟩ := hp; obtain ⟨v, q1, q2, _, q3⟩ := vB7 (pr := 0 ≤ i ∧ i < xs.length) (q := True) h hfr hn hm hf (i := i.toNat) (by omega) trivial; exact bA0 (bA9 ho ht hs ha e2 (q1 b n c e1)) q3
           · exact hp.elim
         · rename_i hmd5; rw [if_neg hmd5]; split at hp
           · rename_i hmd10; rw [if_pos hmd10]; unfold viewG at hp ⊢; split at hp
             · rename_i e2' u xss hf; obtain ⟨h0, h1⟩ := hp; obtain ⟨v, q1, q2⟩ := uC7 (pr := 0 ≤ i ∧ i < xs.length) (q := True) h hn hm hf (i := i.toNat) (by omega) trivial; exact bA0 (bA9 ho ht hs ha e2 (q1 b n c e1)) q2
             · exact hp.elim
           · exact hp.elim
     · exact hp.elim
   · exact hp.elim
 · exact hp.elim
theorem cC5 {α : Type} (c : List α) (p : Nat) (v : α) (h : p < c.length) : c.take p ++ [v] ++ c.drop (p + 1) = c.set p v := by
 rw [List.set_eq_take_append_cons_drop, if_pos h]; simp
theorem sB6 (h : RepM cx σ N m w) (hfr0 : N fr) {id fid r : Nat} {e e2 : TypeId} {t u : Ty} {p : Nat} {xs : List t.den} {xss : List (List u.den)} {zs : List u.den} {j : Nat} {hole : Option Nat} (hho : hole = none ∨ hole = some j) (hn : ¬ N id) (hnr : ¬ N r) (hm : m id = .rowg e t p fid xs hole) (hf : m fid = .fam e2 u xss) (hr : m r = .row e2 u zs) (hj : j < xs.length)
 {b n c : Nat} (e1 : σ id = .slice (some ⟨b, 0, none⟩) n c) {t1 : TypeId} {ii : TypeInfo} (hii : P.info? t1 = some ii) (hs1 : ii.size = 1) {pr q : Prop} (hq : q) :
 ∃ w', (storeVar t1 ⟨b, j * t.n + p, none⟩ (σ r)).run P w = .ok () w' ∧
   Res cx σ N m w fr ⟨pr, .one .undef, [(fid, .dead), (r, .dead), (id, .rowg e t p fr xs none), (fr, .fam e2 u (xss.set j zs))], q⟩ undef w' := by
 have hb := h.blk id; rw [hm] at hb; obtain ⟨f, vs, flat, b1, b2, b3, b4, b5⟩ := hb; simp only [rx] at b1 b2 b4; have hb2 := h.blk fid; rw [hf] at hb2; obtain ⟨f', vs', c1, c2⟩ := hb2; simp only [rx] at c1; rw [b2] at c1; cases c1; have hb3 := h.blk r; rw [hr] at hb3; obtain ⟨n0, fl0, rfl, d1, d2⟩ := hb3; simp only [rx] at d1 d2; have ne1 : id ≠ fid := fun k => by rw [k, hf] at hm; cases hm
 have ne2 : id ≠ r := fun k => by rw [k, hr] at hm; cases hm
 have ne3 : fid ≠ r := fun k => by rw [k, hr] at hf; cases hf
 have ne4 : id ≠ fr := fun k => hn (k ▸ hfr0); have ne5 : fid ≠ fr := fun k => b1 (k ▸ hfr0); have ne6 : r ≠ fr := fun k => hnr (k ▸ hfr0); have oid : own (m id) = true := by rw [hm]; rfl
 have ofid : own (m fid) = true := by rw [hf]; rfl
 have or0 : own (m r) = true := by rw [hr]; rfl
 have hxl : xss.length = xs.length := by rw [← b3]; exact c2.len.symm
 have hjv : j < vs.toList.length := by omega
 obtain ⟨pre, c0, post, f1, f3, f4, f5, f6⟩ := gB8 b5 (by rw [uA1]; exact b3) hj; have hlc : c0.length = t.n := rB0 _ _ f4; have hone : (σ r).oneCell' = true := h.hone r; have hcells : (σ r).cells = #[σ r] := lC4 hone; rw [e1] at b4; obtain ⟨w', hrun, w1, w2, w3, w4, w5, w6, w7⟩ := fA6 (P := P) b4 (by omega) hii (off := j * t.n + p) (v := σ r) (by rw [hcells, hs1]; rfl) (by rw [hcells]; intro u hu; simp at hu; rw [hu]; exact hone) (by
  rw [f1, hs1]; simp only [List.length_append]; have := f4.1; omega)
 refine ⟨w', hrun, ?_⟩; have hov : flat.take (j * t.n + p) ++ (σ r).cells.toList ++ flat.drop (j * t.n + p + (σ r).cells.toList.length) = pre ++ (c0.set p (σ r) ++ post) := by
  rw [hcells, f1, ← f3]; have := gA7 pre c0 post [σ r] p (by simp; exact f4.1); simp only [List.toList_toArray, List.length_singleton] at this ⊢; rw [this, cC5 c0 p (σ r) f4.1]
 rw [hov] at w7; have hbf : ∀ (k : Nat) q b, vs.toList[k]? = some q → blkOf q = some b → hb (σ fid) b := fun k q b hq hb => by rw [b2]; exact hb_fam.2 ⟨q, List.mem_of_getElem? hq, hb⟩
 let vs2 := vs.toList.set j (σ r)
 have hv2 : ∀ k q, vs2[k]? = some q → (k = j ∧ q = σ r) ∨ (k ≠ j ∧ vs.toList[k]? = some q) := fun k q hq => by
  simp only [vs2] at hq; rw [List.getElem?_set] at hq; by_cases hij : j = k
  · subst hij; rw [if_pos rfl, if_pos hjv] at hq; exact .inl ⟨rfl, by simpa using hq.symm⟩
  · rw [if_neg hij] at hq; exact .inr ⟨fun e => hij e.symm, hq⟩
 let m' : Mem := upd (upd (upd (upd m fid .dead) r .dead) id (.rowg e t p fr xs none)) fr (.fam e2 u (xss.set j zs))
 let σ' : Nat → Value := upd σ fr (.func (.func 0) #[] vs2.toArray)
 have m1 : m' fid = .dead := by simp only [m']; rw [iA0 _ _ ne5, iA0 _ _ (fun k => ne1 k.symm), iA0 _ _ ne3, upd_same]
 have m2 : m' r = .dead := by simp only [m']; rw [iA0 _ _ ne6, iA0 _ _ (fun k => ne2 k.symm), upd_same]
 have m3 : m' id = .rowg e t p fr xs none := by simp only [m']; rw [iA0 _ _ ne4, upd_same]
 have m4 : m' fr = .fam e2 u (xss.set j zs) := upd_same _ _ _; have m5 : ∀ i, i ≠ id → i ≠ fid → i ≠ r → i ≠ fr → m' i = m i := fun i h1 h2 h3 h4 => by simp only [m']; rw [iA0 _ _ h4, iA0 _ _ h1, iA0 _ _ h3, iA0 _ _ h2]
 have s1 : σ' fr = .func (.func 0) #[] vs2.toArray := upd_same _ _ _; have s2 : ∀ i, i ≠ fr → σ' i = σ i := fun i h1 => iA0 _ _ h1; have hr0b : ∀ b, blkOf (σ r) = some b → hb (σ r) b := fun b hb => .inl hb; have hfb : ∀ b, hb (σ' fr) b → hb (σ fid) b ∨ hb (σ r) b := fun b hb => by
  rw [s1, hb_fam] at hb; obtain ⟨q, hq, hqb⟩ := hb; obtain ⟨i, hi, rfl⟩ := List.getElem_of_mem hq; have hi2 := List.getElem?_eq_getElem hi; simp only [List.toList_toArray] at hi2 hi hqb
  rcases hv2 i _ hi2 with ⟨_, h2⟩ | ⟨_, h2⟩
  · rw [h2] at hqb; exact .inr (hr0b b hqb)
  · exact .inl (hbf i _ b h2 hqb)
 have hidb : hb (σ id) b := by rw [e1]; exact .inl w6
 have hblk : ∀ bb, (hb (σ fid) bb ∨ hb (σ r) bb) → w'.heap[bb]? = w.heap[bb]? := fun bb hq => by
  refine w1 bb fun e => ?_; rw [e] at hq
  rcases hq with hq | hq
  · exact ne1 (h.inj id fid b oid ofid hidb hq)
  · exact ne2 (h.inj id r b oid or0 hidb hq)
 obtain ⟨k1, k2⟩ := h.step (σ' := σ') (N' := Nx N fr) (m' := m') (w' := w') (fun i => i = id ∨ i = fid ∨ i = r ∨ i = fr) (fun i k => k.1)
  (fun i k => by
    have h1 : i ≠ fr := fun e => k.2 ⟨by omega, by omega⟩; rw [m5 i (fun e => hn (e ▸ k.1)) (fun e => b1 (e ▸ k.1)) (fun e => hnr (e ▸ k.1)) h1]; exact h.fresh i k.1)
  (fun i k => by simp only [not_or] at k; exact ⟨m5 i k.1 k.2.1 k.2.2.1 k.2.2.2, s2 i k.2.2.2⟩)
  (fun i k => s2 i (fun e => k (e ▸ hfr0)))
  (fun bb _ hx => w1 bb (fun e => hx id (.inl rfl) oid (by rw [e]; exact hidb))) w2 w3 w4 w5
  (fun i b hi ho hbb => by
    rcases hi with rfl | rfl | rfl | rfl
    · rw [s2 _ ne4] at hbb; exact .inr ⟨i, .inl rfl, oid, hbb⟩
    · rw [m1] at ho; cases ho
    · rw [m2] at ho; cases ho
    · rcases hfb b hbb with h1 | h1
      · exact .inr ⟨fid, .inr (.inl rfl), ofid, h1⟩
      · exact .inr ⟨r, .inr (.inr (.inl rfl)), or0, h1⟩)
  (fun i i' b hi hi' ho ho' hb1 hb2 => by
    have kx : hb (σ' id) b → hb (σ' fr) b → False := fun h1 h2 => by
     rw [s2 _ ne4] at h1
     rcases hfb b h2 with h3 | h3
     · exact ne1 (h.inj _ _ b oid ofid h1 h3)
     · exact ne2 (h.inj _ _ b oid or0 h1 h3)
    rcases hi with rfl | rfl | rfl | rfl <;> rcases hi' with rfl | rfl | rfl | rfl <;> first
     | rfl
     | (rw [m1] at ho; cases ho)
     | (rw [m1] at ho'; cases ho')
     | (rw [m2] at ho; cases ho)
     | (rw [m2] at ho'; cases ho')
     | exact (kx hb1 hb2).elim
     | exact (kx hb2 hb1).elim)
  (fun i hi => by
    rcases hi with rfl | rfl | rfl | rfl
    · rw [s2 _ ne4]; exact h.hone _
    · rw [s2 _ ne5]; exact h.hone _
    · rw [s2 _ ne6]; exact h.hone _
    · rw [s1]; rfl)
  (fun hk i hi => by
    rcases hi with rfl | rfl | rfl | rfl
    · rw [m3]; refine ⟨.func 0, vs2.toArray, _, fun k => k.2 ⟨by omega, by omega⟩, s1, by simp only [vs2, List.toList_toArray, List.length_set]; exact b3, by simp only [rx]; rw [s2 _ ne4, e1]; exact w7, ?_⟩; simp only [List.toList_toArray, holed, vs2, List.map_set]; have hz : xs.zip ((vs.toList.map some).set j (some (σ r))) = (xs.zip (holed vs.toList hole)).set j (xs[j], some (σ r)) := by
       rw [← bA7, bB2 hj]
       rcases hho with rfl | rfl
       · rfl
       · simp only [holed, List.set_set]
      rw [hz]; refine nA4 (by rw [List.length_zip, uA1]; omega) (fA0 (fA1 hk.k) _ _ f5) ?_ (fA0 (fA1 hk.k) _ _ f6); have hel := fA1 hk.k _ _ f4; refine ⟨by rw [List.length_set]; exact hel.1, fun v hv => by cases hv; rw [List.getElem?_set, if_pos rfl, if_pos hel.1], fun u hu => ?_, by rw [List.set_set]; exact hel.2.2.2⟩
      rcases List.mem_or_eq_of_mem_set hu with hu | hu
      · exact hel.2.2.1 u hu
      · rw [hu]; exact hone
    · rw [m1]; trivial
    · rw [m2]; trivial
    · rw [m4]; refine ⟨.func 0, vs2.toArray, s1, ?_⟩; simp only [List.toList_toArray]; refine ⟨by simp only [vs2]; rw [List.length_set, List.length_set]; exact c2.len, fun i xs q h1 h2 => ?_, fun i i2 q q2 b h1 h2 h3 h4 => ?_⟩
      · rcases hv2 i q h2 with ⟨hij, hq⟩ | ⟨hij, hq⟩
        · subst hij hq; rw [List.getElem?_set, if_pos rfl, if_pos (by omega)] at h1; simp only [Option.some.injEq] at h1; subst h1; exact ⟨h.hone r, fl0, dA1 d1 (fun g hg => hblk g (.inr (hr0b g hg))), fA0 (hA0 hk.k u) _ _ d2⟩
        · rw [List.getElem?_set, if_neg (fun e => hij e.symm)] at h1; obtain ⟨g1, fl, g2, g3⟩ := c2.row i xs q h1 hq; exact ⟨g1, fl, dA1 g2 (fun g hg => hblk g (.inl (hbf i q g hq hg))), fA0 (hA0 hk.k u) _ _ g3⟩
      · rcases hv2 i q h1 with ⟨hij, hq⟩ | ⟨hij, hq⟩ <;> rcases hv2 i2 q2 h2 with ⟨hij2, hq2⟩ | ⟨hij2, hq2⟩
        · rw [hij, hij2]
        · rw [hq] at h3; exact absurd (h.inj fid r b ofid or0 (hbf i2 q2 b hq2 h4) (hr0b b h3)) ne3
        · rw [hq2] at h4; exact absurd (h.inj fid r b ofid or0 (hbf i q b hq h3) (hr0b b h4)) ne3
        · exact c2.inj i i2 q q2 b hq hq2 h3 h4)
 refine ⟨σ', k1, k2, ?_, hq⟩; unfold repA repC; trivial
end
end Go.Ev

namespace Go.Ev
section
variable {cx : Cx} {σ : Nat → Value} {N : Nat → Prop} {m : Mem} {w : World} {P : Program} {T : Tab} {G : Env} {o : Oper} {fr : Nat} {ρ : Operand → Value} {av : Operand → AV}
def killO (m : Mem) : Option Nat → Mem
 | some i => upd m i .dead
 | none => m
def killH : Option Nat → Heap
 | some i => [(i, .dead)]
 | none => []
theorem rC5 {m : Mem} {r : Option Nat} {i : Nat} (h : r ≠ some i) : killO m r i = m i := by
 cases r with
 | none => rfl
 | some j => exact iA0 _ _ (fun e => h (by rw [e]))
theorem pC7 {m : Mem} {i : Nat} : killO m (some i) i = .dead := upd_same _ _ _
theorem oB2 (h : RepM cx σ N m w) (hfr : ∀ id, fr ≤ id → id < fr + 32 → N id) {r : Option Nat} (hr : ∀ i, r = some i → own (m i) = true ∧ ¬ N i) {e e2 : TypeId} {t u : Ty} {p : Nat} {xs : List t.den} {xss : List (List u.den)} {vs : List Value} (hfam : famRep (rx cx σ N m w) e2 u xss vs)
 (hvs : ∀ v ∈ vs, ∀ b, blkOf v = some b → ∃ i, r = some i ∧ hb (σ i) b) {v : Value} (h1 : v.oneCell' = true) (hvh : ∀ b, hb v b → w.heap.size ≤ b) {w' : World}
 (hw : (∀ b, b < w.heap.size → w'.heap[b]? = w.heap[b]?) ∧ w'.os = w.os ∧ w'.tape = w.tape ∧ w'.output = w.output ∧ w.heap.size ≤ w'.heap.size ∧ w.drawn ≤ w'.drawn) (hlen : vs.length = xs.length) {flat : List Value} (hrow : RowR w' e t.n v xs.length flat)
 (hel : roAll (elG (rx cx σ N m w) t p) (xs.zip (vs.map some)) flat) {av : AV} {v' : Value} (hav : ∀ x : Rx, ¬ x.N fr → x.σ fr = v → repA x av v') {pr q : Prop} (hq : q) :
 Res cx σ N m w fr ⟨pr, av, killH r ++ [(fr + 1, .fam e2 u xss), (fr, .rowg e t p (fr + 1) xs none)], q⟩ v' w' := by
 have n0 : N fr := hfr fr (by omega) (by omega); have n1 : N (fr + 1) := hfr (fr + 1) (by omega) (by omega); have nr0 : r ≠ some fr := fun e => (hr fr e).2 n0; have nr1 : r ≠ some (fr + 1) := fun e => (hr _ e).2 n1; have ne6 : fr + 1 ≠ fr := by omega
 let m' : Mem := upd (upd (killO m r) (fr + 1) (.fam e2 u xss)) fr (.rowg e t p (fr + 1) xs none)
 let σ' : Nat → Value := upd (upd σ (fr + 1) (.func (.func 0) #[] vs.toArray)) fr v
 have hm' : updM m (killH r ++ [(fr + 1, .fam e2 u xss), (fr, .rowg e t p (fr + 1) xs none)]) = m' := by
  rw [yA0]; cases r <;> rfl
 have m1 : ∀ i, r = some i → m' i = .dead := fun i e => by
  simp only [m']; rw [iA0 _ _ (fun k => nr0 (by rw [e, k])), iA0 _ _ (fun k => nr1 (by rw [e, k])), e, pC7]
 have m3 : m' (fr + 1) = .fam e2 u xss := by simp only [m']; rw [iA0 _ _ ne6, upd_same]
 have m4 : m' fr = .rowg e t p (fr + 1) xs none := upd_same _ _ _; have m5 : ∀ i, r ≠ some i → i ≠ fr → i ≠ fr + 1 → m' i = m i := fun i h1 h2 h3 => by simp only [m']; rw [iA0 _ _ h2, iA0 _ _ h3, rC5 h1]
 have s1 : σ' fr = v := upd_same _ _ _; have s2 : σ' (fr + 1) = .func (.func 0) #[] vs.toArray := by simp only [σ']; rw [iA0 _ _ ne6, upd_same]
 have s3 : ∀ i, i ≠ fr → i ≠ fr + 1 → σ' i = σ i := fun i h1 h2 => by simp only [σ']; rw [iA0 _ _ h1, iA0 _ _ h2]
 have kf : ∀ b, hb (σ' (fr + 1)) b → ∃ i, r = some i ∧ hb (σ i) b := fun b hbb => by
  rw [s2, hb_fam] at hbb; obtain ⟨q, hq, hqb⟩ := hbb; exact hvs q (by simpa using hq) b hqb
 have lt : ∀ b i, r = some i → hb (σ i) b → b < w.heap.size := fun b i e hbb => xA3 (h.blk i) (hr i e).1 b hbb; obtain ⟨k1, k2⟩ := h.step (σ' := σ') (N' := Nx N fr) (m' := m') (w' := w') (fun i => r = some i ∨ i = fr ∨ i = fr + 1) (fun i k => k.1)
  (fun i k => by
    have h1 : i ≠ fr := fun e => k.2 ⟨by omega, by omega⟩; have h2 : i ≠ fr + 1 := fun e => k.2 ⟨by omega, by omega⟩; rw [m5 i (fun e => (hr i e).2 k.1) h1 h2]; exact h.fresh i k.1)
  (fun i k => by simp only [not_or] at k; exact ⟨m5 i k.1 k.2.1 k.2.2, s3 i k.2.1 k.2.2⟩)
  (fun i k => s3 i (fun e => k (e ▸ n0)) (fun e => k (e ▸ n1)))
  (fun b hb _ => hw.1 b hb) hw.2.2.2.2 hw.2.1 hw.2.2.1 hw.2.2.2.1
  (fun i b hi ho hbb => by
    rcases hi with hi | rfl | rfl
    · rw [m1 i hi] at ho; cases ho
    · rw [s1] at hbb; exact .inl (hvh b hbb)
    · obtain ⟨i, e, g⟩ := kf b hbb; exact .inr ⟨i, .inl e, (hr i e).1, g⟩)
  (fun i i' b hi hi' ho ho' hb1 hb2 => by
    have kx : hb (σ' fr) b → hb (σ' (fr + 1)) b → False := fun h1 h2 => by
     rw [s1] at h1; obtain ⟨i, e, g⟩ := kf b h2; have := lt b i e g; have := hvh b h1; omega
    rcases hi with hi | rfl | rfl
    · rw [m1 i hi] at ho; cases ho
    · rcases hi' with hi' | rfl | rfl
      · rw [m1 _ hi'] at ho'; cases ho'
      · rfl
      · exact (kx hb1 hb2).elim
    · rcases hi' with hi' | rfl | rfl
      · rw [m1 _ hi'] at ho'; cases ho'
      · exact (kx hb2 hb1).elim
      · rfl)
  (fun i hi => by
    rcases hi with hi | rfl | rfl
    · rw [s3 i (fun e => nr0 (by rw [hi, e])) (fun e => nr1 (by rw [hi, e]))]; exact h.hone _
    · rw [s1]; exact h1
    · rw [s2]; rfl)
  (fun hk i hi => by
    rcases hi with hi | rfl | rfl
    · rw [m1 i hi]; trivial
    · rw [m4]; refine ⟨.func 0, vs.toArray, flat, fun k => k.2 ⟨by omega, by omega⟩, s2, by simpa using hlen, by simp only [rx]; rw [s1]; exact hrow, ?_⟩; simp only [List.toList_toArray, holed]; exact fA0 (fA1 hk.k) _ _ hel
    · rw [m3]; refine ⟨.func 0, vs.toArray, s2, ?_⟩; simp only [List.toList_toArray]; exact fA5 hk hfam (fun u hu b hbu => hw.1 b (fB3 hfam u hu b hbu)))
 refine ⟨σ', ?_, ?_, ?_, hq⟩
 · simp only [hm']; exact k1
 · simp only [hm']; exact k2
 · simp only [hm']; exact hav _ (fun k => k.2 ⟨by omega, by omega⟩) s1
theorem fA7 {x : Rx} {e : TypeId} {u : Ty} (n : Nat) : famRep x e u (List.replicate n []) (List.replicate n (.slice none 0 0)) := by
 refine ⟨by simp, fun i xs v h1 h2 => ?_, fun i j u v b h1 h2 h3 => ?_⟩
 · rw [List.getElem?_replicate] at h1 h2; split at h1
   · rename_i hi; rw [if_pos hi] at h2; cases h1; cases h2; exact ⟨rfl, [], oA2 _ _ _ _, rfl⟩
   · cases h1
 · rw [List.getElem?_replicate] at h1; split at h1
   · cases h1; cases h3
   · cases h1
theorem bB9 {x : Rx} {e : TypeId} {u : Ty} {ys : List u.den} {v : Value} {flat : List Value} (h1 : v.oneCell' = true) (h2 : RowR x.w e u.n v ys.length flat) (h3 : roAll (ro x.w x.O u) ys flat) : famRep x e u [ys] [v] := by
 refine ⟨rfl, fun i xs q g1 g2 => ?_, fun i j a b c g1 g2 _ _ => ?_⟩
 · match i, g1, g2 with
   | 0, g1, g2 => cases g1; cases g2; exact ⟨h1, flat, h2, h3⟩
   | i + 1, g1, _ => cases g1
 · have e1 := (List.getElem?_eq_some_iff.1 g1).1; have e2 := (List.getElem?_eq_some_iff.1 g2).1; simp at e1 e2; omega
theorem bC8 (h : RepM cx σ N m w) (hfr : ∀ id, fr ≤ id → id < fr + 32 → N id) {e e2 : TypeId} {t : Ty} {r : Option (Nat × Ty)} (hp : (nilG e2 fr e t r).pre) : Res cx σ N m w fr (nilG e2 fr e t r) (.slice none 0 0) w := by
 cases r with
 | none => exact hp.elim
 | some r =>
   have := oB2 (cx := cx) (σ := σ) (m := m) (w := w) (w' := w) (r := none) (e := e) (e2 := e2) (t := t) (u := r.2) (p := r.1) (xs := []) (xss := []) (vs := []) (v := .slice none 0 0) (v' := .slice none 0 0) (flat := []) (av := .one (.row fr)) (pr := True) (q := True) h hfr (fun i e => by cases e)
    (fA7 0) (fun v hv => by cases hv) rfl (fun b hb => by rw [hb_slice] at hb; cases hb) (qA3 w) rfl (oA2 _ _ _ _) rfl (fun x h1 h2 => by unfold repA repC; exact ⟨h1, h2.symm⟩) trivial
   exact this
theorem aC1 {x : Rx} {v : Ty} : ∀ (n : Nat) (cs : List Value), zTyN (.sl v) n cs → roAll (elG x (.sl v) 0) ((List.replicate n ([] : List v.den)).zip ((List.replicate n (Value.slice none 0 0)).map some)) cs
 | 0, _, h => h
 | n + 1, _, ⟨c, d, e, h1, h2⟩ => by
   have hc : c = [.slice none 0 0] := h1; subst hc; refine ⟨_, d, e, ⟨by simp, fun v hv => by cases hv; rfl, fun u hu => by simp at hu; rw [hu]; rfl, ?_⟩, aC1 n d h2⟩; exact ⟨none, 0, 0, rfl, rfl, Nat.le_refl _, by simp [maxLen], .inl rfl⟩
theorem bC7 (h : RepM cx σ N m w) (hfr : ∀ id, fr ≤ id → id < fr + 32 → N id) {t : TypeId} (ho : o.op = .alloc t) (ht : TabOK P T) {n : Nat} {e e2 : TypeId} {u : Ty} (hd : (TI.of T t).desc = .array n e u) (hp : (allocG e2 fr t n u).pre) :
 Runs P w (Res cx σ N m w fr (allocG e2 fr t n u)) ((execOp ρ o).run P w) := by
 have htt := TI.of_ok ht t (fun e => by rw [e] at hd; cases hd); obtain ⟨hu, hn0, hnm, hun, i, z, hi, hz, hzt⟩ := htt.arr n e u hd
 cases u with
 | sl v =>
   have hrun : (execOp ρ o).run P w = .ok (.value (.pointer (some ⟨w.heap.size, 0, none⟩))) (w.alloc (.cells z.cells.toList.toArray t)) := by
    simp [execOp, ho, Instr.alloc, wA0 hi hz, newVar, newRow]
   have hlen : z.cells.toList.length = n * (Ty.sl v).n := by
    have := nA0 (fun x c => qA0 (.sl v) x c) _ _ (lB2 (w := w) (O := fun _ => False) n _ hzt)
    rwa [List.length_replicate] at this
   refine bA0 hrun ?_; have := oB2 (cx := cx) (σ := σ) (m := m) (w := w) (r := none) (e := t) (e2 := e2) (t := .sl v) (u := v) (p := 0) (xs := List.replicate n []) (xss := List.replicate n []) (vs := List.replicate n (.slice none 0 0)) (v := .slice (some ⟨w.heap.size, 0, none⟩) n n) (v' := .pointer (some ⟨w.heap.size, 0, none⟩)) (flat := z.cells.toList) (av := .one (.ep fr 1 0 0)) (pr := True) (q := True) h hfr (fun i e => by cases e)
    (fA7 n) (fun v hv b hb => by rw [List.mem_replicate] at hv; rw [hv.2] at hb; cases hb) rfl (fun b hb => by rw [hb_slice, gA0 hn0] at hb; simp at hb; omega) (oA1 w (.cells z.cells.toList.toArray t)) (by simp)
    (by rw [List.length_replicate]; exact bA4 hlen (heap_alloc_new w _) (Nat.le_refl _) hnm (by simp only [List.size_toArray]; exact hlen) (by rw [List.take_of_length_le (by simp only [List.toList_toArray]; omega)])) (aC1 n _ hzt) (fun x h1 h2 => by
      unfold repA repC; exact ⟨h1, w.heap.size, n, n, h2, by simp⟩) trivial
   exact this
 | _ => exact hp.elim
end
end Go.Ev
