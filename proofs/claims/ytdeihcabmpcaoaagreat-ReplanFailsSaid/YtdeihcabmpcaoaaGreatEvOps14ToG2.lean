/- Soundness of the operations: an entry of a map of rows, lent out and given back. -/
import Derived.Test.YtdeihcabmpcaoaaGreatEvOps13
import Derived.Test.YtdeihcabmpcaoaaGreatEvOps10ToOps11
import Derived.Test.YtdeihcabmpcaoaaGreatEvOps6ToPtr
import Derived.Test.YtdeihcabmpcaoaaGreatEvG1ToOps5
set_option linter.unusedSimpArgs false
set_option linter.unusedVariables false
namespace Go.Ev

section
variable {cx : Cx} {σ : Nat → Value} {N : Nat → Prop} {m : Mem} {w : World} {P : Program} {T : Tab} {G : Env} {o : Oper} {fr : Nat} {ρ : Operand → Value} {av : Operand → AV}

theorem hset_get {α : Type} {l : List α} {j : Nat} {x : α} (hj : j ≤ l.length) (i : Nat) : (hset l j x)[i]? = if i = j then some x else l[i]? := by
 unfold hset
 split
 · rename_i h
   rw [List.getElem?_set]
   by_cases hi : j = i
   · subst hi; simp [h]
   · rw [if_neg hi, if_neg (fun e => hi e.symm)]
 · rename_i h
   have hjl : j = l.length := by omega
   rw [List.getElem?_append]
   by_cases hi : i = j
   · subst hi; rw [hjl]; simp
   · rw [if_neg hi]
     split
     · rfl
     · rename_i h2
       rw [List.getElem?_eq_none (by simp; omega), List.getElem?_eq_none (by omega)]
theorem hset_len {α β : Type} {l : List α} {l' : List β} {j : Nat} {x : α} {y : β} (h : l.length = l'.length) : (hset l j x).length = (hset l' j y).length := by
 unfold hset
 rw [h]
 split <;> simp [h]
theorem nil_blk {b : Nat} : blkOf (.slice none 0 0) ≠ some b := by simp [blkOf]

/-- A row is lent out. -/
theorem lend (h : RepM cx σ N m w) (hfr : ∀ id, fr ≤ id → id < fr + 32 → N id) {id fid : Nat} {kt : Ty} {ka : Bool} {ks ks' : List kt.den} {e : TypeId} {u : Ty} {xss : List (List u.den)} (hm : m id = .mapg kt ka fid ks none) (hf : m fid = .fam e u xss) (hn : ¬ N id)
 {r : Nat} {es es' : Array MapEntry} {f : Fn} {vs : Array Value} (b1 : σ id = .map (some r)) (b2 : w.heap[r]? = some (.map es ks.length)) (b3 : ¬ N fid) (b4 : σ fid = .func f #[] vs) (c2 : famRep (rx cx σ N m w) e u xss vs.toList)
 {j : Nat} (hj : j ≤ xss.length) {v : Value} (hv : (v = .slice none 0 0 ∧ xss.getD j [] = []) ∨ (vs.toList[j]? = some v ∧ xss[j]? = some (xss.getD j [])))
 (hmap : ∀ y : Rx, (rx cx σ N m w).Keeps y → mapgRep y kt ka (some j) ks' es'.toList (hset vs.toList j (.slice none 0 0))) :
 ∃ σ', RepM cx σ' (Nx N fr) (updM m [(fid, .dead), (id, .mapg kt ka (fr + 1) ks' (some j)), (fr + 1, .fam e u (hset xss j [])), (fr, .row e u (xss.getD j []))]) { w with heap := w.heap.setIfInBounds r (.map es' ks'.length) } ∧
   Rx.Keeps (rx cx σ N m w) (rx cx σ' (Nx N fr) (updM m [(fid, .dead), (id, .mapg kt ka (fr + 1) ks' (some j)), (fr + 1, .fam e u (hset xss j [])), (fr, .row e u (xss.getD j []))]) { w with heap := w.heap.setIfInBounds r (.map es' ks'.length) }) ∧ σ' fr = v := by
 obtain ⟨f1, f2⟩ := MapKept.heap_set (o' := .map es' ks'.length) b2
 have n0 : N fr := hfr fr (by omega) (by omega)
 have n1 : N (fr + 1) := hfr (fr + 1) (by omega) (by omega)
 have hne1 : id ≠ fid := fun k => by rw [k, hf] at hm; cases hm
 have hne2 : id ≠ fr := fun k => hn (k ▸ n0)
 have hne3 : id ≠ fr + 1 := fun k => hn (k ▸ n1)
 have hne4 : fid ≠ fr := fun k => b3 (k ▸ n0)
 have hne5 : fid ≠ fr + 1 := fun k => b3 (k ▸ n1)
 have hne6 : fr + 1 ≠ fr := by omega
 have hvl : vs.toList.length = xss.length := c2.len
 have hG := fun i => hset_get (l := vs.toList) (x := Value.slice none 0 0) (by rw [hvl]; exact hj) i
 have hX := fun i => hset_get (l := xss) (x := ([] : List u.den)) hj i
 have v1 : v.oneCell' = true := by
  rcases hv with ⟨rfl, _⟩ | ⟨h1, h2⟩
  · rfl
  · exact (c2.row j _ v h2 h1).1
 have ofid : own (m fid) = true := by rw [hf]; rfl
 have oid : own (m id) = true := by rw [hm]; rfl
 have hbf : ∀ (i : Nat) u b, vs.toList[i]? = some u → blkOf u = some b → hb (σ fid) b := fun i u b hu hb => by rw [b4]; exact hb_fam.2 ⟨u, List.mem_of_getElem? hu, hb⟩
 have hvb : ∀ b, hb v b → vs.toList[j]? = some v ∧ blkOf v = some b := fun b hb => by
  rcases hv with ⟨rfl, _⟩ | ⟨h1, h2⟩
  · exact absurd (hb_slice.1 hb) nil_blk
  · obtain ⟨a, c, e1, _⟩ := fam_val c2 h1
    exact ⟨h1, by rw [e1] at hb ⊢; exact hb_slice.1 hb⟩
 have hfb : ∀ b, hb (.func (.func 0) #[] (hset vs.toList j (.slice none 0 0)).toArray) b → ∃ (i : Nat) (u : Value), i ≠ j ∧ vs.toList[i]? = some u ∧ blkOf u = some b := fun b hb => by
  rw [hb_fam] at hb
  obtain ⟨u, hu, hub⟩ := hb
  obtain ⟨i, hi, rfl⟩ := List.getElem_of_mem hu
  have hi2 := List.getElem?_eq_getElem hi
  simp only [List.toList_toArray] at hi2 hi hub
  rw [hG i] at hi2
  by_cases hij : i = j
  · rw [if_pos hij] at hi2
    simp only [Option.some.injEq] at hi2
    rw [← hi2] at hub
    exact absurd hub nil_blk
  · rw [if_neg hij] at hi2
    exact ⟨i, _, hij, hi2, hub⟩
 -- the new state
 let m' : Mem := upd (upd (upd (upd m fid .dead) id (.mapg kt ka (fr + 1) ks' (some j))) (fr + 1) (.fam e u (hset xss j []))) fr (.row e u (xss.getD j []))
 let σ' : Nat → Value := upd (upd σ (fr + 1) (.func (.func 0) #[] (hset vs.toList j (.slice none 0 0)).toArray)) fr v
 have m1 : m' fid = .dead := by simp only [m']; rw [upd_ne _ _ hne4, upd_ne _ _ hne5, upd_ne _ _ (fun k => hne1 k.symm), upd_same]
 have m2 : m' id = .mapg kt ka (fr + 1) ks' (some j) := by simp only [m']; rw [upd_ne _ _ hne2, upd_ne _ _ hne3, upd_same]
 have m3 : m' (fr + 1) = .fam e u (hset xss j []) := by simp only [m']; rw [upd_ne _ _ hne6, upd_same]
 have m4 : m' fr = .row e u (xss.getD j []) := upd_same _ _ _
 have m5 : ∀ i, i ≠ id → i ≠ fid → i ≠ fr → i ≠ fr + 1 → m' i = m i := fun i h1 h2 h3 h4 => by simp only [m']; rw [upd_ne _ _ h3, upd_ne _ _ h4, upd_ne _ _ h1, upd_ne _ _ h2]
 have s1 : σ' fr = v := upd_same _ _ _
 have s2 : σ' (fr + 1) = .func (.func 0) #[] (hset vs.toList j (.slice none 0 0)).toArray := by simp only [σ']; rw [upd_ne _ _ hne6, upd_same]
 have s3 : ∀ i, i ≠ fr → i ≠ fr + 1 → σ' i = σ i := fun i h1 h2 => by simp only [σ']; rw [upd_ne _ _ h1, upd_ne _ _ h2]
 obtain ⟨k1, k2⟩ := h.step (σ' := σ') (N' := Nx N fr) (m' := m') (w' := { w with heap := w.heap.setIfInBounds r (.map es' ks'.length) }) (fun i => i = id ∨ i = fid ∨ i = fr ∨ i = fr + 1) (fun i k => k.1)
  (fun i k => by
    have h1 : i ≠ fr := fun e => k.2 ⟨by omega, by omega⟩
    have h2 : i ≠ fr + 1 := fun e => k.2 ⟨by omega, by omega⟩
    have h3 : i ≠ id := fun e => hn (e ▸ k.1)
    have h4 : i ≠ fid := fun e => b3 (e ▸ k.1)
    rw [m5 i h3 h4 h1 h2]; exact h.fresh i k.1)
  (fun i k => by simp only [not_or] at k; exact ⟨m5 i k.1 k.2.1 k.2.2.1 k.2.2.2, s3 i k.2.2.1 k.2.2.2⟩)
  (fun i k => s3 i (fun e => k (e ▸ n0)) (fun e => k (e ▸ n1)))
  (fun b _ hx => f2 b (fun e => hx id (.inl rfl) oid (by rw [b1, e]; exact .inl rfl))) ⟨by simp, Nat.le_refl _⟩ rfl rfl rfl
  (fun i b hi ho hbb => by
    rcases hi with rfl | rfl | rfl | rfl
    · rw [s3 i hne2 hne3] at hbb
      exact .inr ⟨i, .inl rfl, oid, hbb⟩
    · rw [m1] at ho; cases ho
    · rw [s1] at hbb
      obtain ⟨h1, h2⟩ := hvb b hbb
      exact .inr ⟨fid, .inr (.inl rfl), ofid, hbf j v b h1 h2⟩
    · rw [s2] at hbb
      obtain ⟨i, q, _, h1, h2⟩ := hfb b hbb
      exact .inr ⟨fid, .inr (.inl rfl), ofid, hbf i q b h1 h2⟩)
  (fun i i' b hi hi' ho ho' hb1 hb2 => by
    have kfr : ∀ b, hb (σ' fr) b → hb (σ fid) b := fun b hbb => by
     rw [s1] at hbb
     obtain ⟨h1, h2⟩ := hvb b hbb
     exact hbf j v b h1 h2
    have kf1 : ∀ b, hb (σ' (fr + 1)) b → hb (σ fid) b := fun b hbb => by
     rw [s2] at hbb
     obtain ⟨i, q, _, h1, h2⟩ := hfb b hbb
     exact hbf i q b h1 h2
    have kid : ∀ b, hb (σ' id) b → hb (σ id) b := fun b hbb => by rw [s3 id hne2 hne3] at hbb; exact hbb
    have kx : ∀ b, hb (σ' fr) b → hb (σ' (fr + 1)) b → False := fun b h1 h2 => by
     rw [s1] at h1
     rw [s2] at h2
     obtain ⟨g1, g2⟩ := hvb b h1
     obtain ⟨i, q, hij, g3, g4⟩ := hfb b h2
     exact hij (c2.inj i j q v b g3 g1 g4 g2)
    rcases hi with rfl | rfl | rfl | rfl <;> rcases hi' with rfl | rfl | rfl | rfl
    · rfl
    · rw [m1] at ho'; cases ho'
    · exact absurd (h.inj _ _ b oid ofid (kid b hb1) (kfr b hb2)) hne1
    · exact absurd (h.inj _ _ b oid ofid (kid b hb1) (kf1 b hb2)) hne1
    · rw [m1] at ho; cases ho
    · rfl
    · rw [m1] at ho; cases ho
    · rw [m1] at ho; cases ho
    · exact absurd (h.inj _ _ b oid ofid (kid b hb2) (kfr b hb1)) hne1
    · rw [m1] at ho'; cases ho'
    · rfl
    · exact (kx b hb1 hb2).elim
    · exact absurd (h.inj _ _ b oid ofid (kid b hb2) (kf1 b hb1)) hne1
    · rw [m1] at ho'; cases ho'
    · exact (kx b hb2 hb1).elim
    · rfl)
  (fun i hi => by
    rcases hi with rfl | rfl | rfl | rfl
    · rw [s3 i hne2 hne3]; exact h.hone i
    · rw [s3 i hne4 hne5]; exact h.hone i
    · rw [s1]; exact v1
    · rw [s2]; rfl)
  (fun hk i hi => by
    have hblk : ∀ (i : Nat) q b, vs.toList[i]? = some q → blkOf q = some b → (w.heap.setIfInBounds r (.map es' ks'.length))[b]? = w.heap[b]? := fun i q b hq hbq => by
     refine f2 b fun e => ?_
     have h1 := hbf i q b hq hbq
     have h2 : hb (σ id) b := by rw [b1, e]; exact .inl rfl
     exact hne1 (h.inj id fid b oid ofid h2 h1)
    rcases hi with rfl | rfl | rfl | rfl
    · rw [m2]
      refine ⟨r, es', .func 0, (hset vs.toList j (.slice none 0 0)).toArray, by simp only [rx]; rw [s3 i hne2 hne3]; exact b1, f1, fun k => k.2 ⟨by omega, by omega⟩, s2, ?_⟩
      have := hmap _ hk
      simpa using this
    · rw [m1]; trivial
    · rw [m4]
      rcases hv with ⟨rfl, h0⟩ | ⟨h1, h2⟩
      · refine ⟨0, [], by rw [h0]; rfl, ?_, by rw [h0]; rfl⟩
        simp only [rx]; rw [s1]; exact rowR_none _ _ _ _
      · obtain ⟨_, flat, g1, g2⟩ := c2.row j _ v h2 h1
        refine ⟨_, flat, rfl, ?_, roAll_mono (ro_keep hk.k u) _ _ g2⟩
        simp only [rx]; rw [s1]
        exact rowR_of_block g1 (fun g hg => hblk j v g h1 hg)
    · rw [m3]
      refine ⟨.func 0, (hset vs.toList j (.slice none 0 0)).toArray, s2, ?_⟩
      simp only [List.toList_toArray]
      refine ⟨hset_len hvl, fun i xs q h1 h2 => ?_, fun i i2 q q2 b h1 h2 h3 h4 => ?_⟩
      · rw [hX i] at h1
        rw [hG i] at h2
        by_cases hij : i = j
        · rw [if_pos hij] at h1 h2
          simp only [Option.some.injEq] at h1 h2
          subst h1 h2
          exact ⟨rfl, [], rowR_none _ _ _ _, rfl⟩
        · rw [if_neg hij] at h1 h2
          obtain ⟨g1, flat, g2, g3⟩ := c2.row i xs q h1 h2
          exact ⟨g1, flat, rowR_of_block g2 (fun g hg => hblk i q g h2 hg), roAll_mono (ro_keep hk.k u) _ _ g3⟩
      · rw [hG i] at h1
        rw [hG i2] at h2
        by_cases hij : i = j
        · rw [if_pos hij] at h1
          simp only [Option.some.injEq] at h1
          rw [← h1] at h3
          exact absurd h3 nil_blk
        · by_cases hij2 : i2 = j
          · rw [if_pos hij2] at h2
            simp only [Option.some.injEq] at h2
            rw [← h2] at h4
            exact absurd h4 nil_blk
          · rw [if_neg hij] at h1
            rw [if_neg hij2] at h2
            exact c2.inj i i2 q q2 b h1 h2 h3 h4)
 exact ⟨σ', k1, k2, s1⟩
theorem mapRep_at {x : Rx} {kt vt : Ty} {ka va : Bool} : ∀ (l : List (kt.den × vt.den)) (es : List MapEntry), mapRep x kt vt ka va l es → es.length = l.length ∧ ∀ (i : Nat) p en, l[i]? = some p → es[i]? = some en → ∃ ks vs, en.key = mkV ka ks ∧ ro x.w x.O kt p.1 ks ∧ en.val = mkV va vs ∧ ro x.w x.O vt p.2 vs
 | [], es, h => by
   rw [show es = [] from h]
   exact ⟨rfl, fun i p en hp _ => by simp at hp⟩
 | p :: l, es, h => by
   obtain ⟨e, r, ks, vs, rfl, e1, h1, e2, h2, h3⟩ := h
   obtain ⟨a, b⟩ := mapRep_at l r h3
   refine ⟨by rw [List.length_cons, List.length_cons, a], fun i q en hq he => ?_⟩
   cases i with
   | zero =>
     have hq : p = q := by simpa using hq
     have he : e = en := by simpa using he
     subst hq he
     exact ⟨ks, vs, e1, h1, e2, h2⟩
   | succ i => exact b i q en (by simpa using hq) (by simpa using he)
/-- The zero value of a type of numbers. -/
theorem zero_int (ht : TabOK P T) {eT : TypeId} {ik : IntKind} (h1 : (TI.of T eT).ty = some (.int ik)) (h2 : (TI.of T eT).zt = true) (h3 : (TI.of T eT).agg = false) : (zeroValue eT).run P w = .ok (.int ik 0) w := by
 have hte := TI.of_ok ht eT (fun e => by rw [e] at h2; cases h2)
 obtain ⟨iz, zs, hiz, hz, hzt⟩ := hte.zt _ h2 h1
 rw [show zs = [Value.int ik 0] from hzt, h3] at hz
 exact run_zeroValue hiz hz
theorem inR_zero (ik : IntKind) : InR ik 0 := by
 unfold InR IntKind.min IntKind.max
 cases ik <;> simp [IntKind.signed, IntKind.bits]
theorem modify_eq {es : List MapEntry} {j : Nat} {k : Value} (h : ∀ e, es[j]? = some e → e.key = k) : es.modify j (fun e => { e with key := k }) = es := by
 apply List.ext_getElem?
 intro i
 rw [List.getElem?_modify]
 by_cases hij : j = i
 · subst hij
   cases hh : es[j]? with
   | none => rfl
   | some e =>
     have := h e hh
     simp [← this]
 · simp [hij]
theorem s_mapEntry (h : RepM cx σ N m w) (hfr : ∀ id, fr ≤ id → id < fr + 32 → N id) {t : TypeId} {x y : Operand} (ho : o.op = .mapEntry t x y) (ht : TabOK P T) (hx : repA (rx cx σ N m w) (av x) (ρ x)) (hy : repA (rx cx σ N m w) (av y) (ρ y))
 (hp : (opEff T G o [av x, av y] m fr).pre) : Runs P w (Res cx σ N m w fr (opEff T G o [av x, av y] m fr)) ((execOp ρ o).run P w) := by
 simp only [opEff, ho] at hp ⊢
 split at hp <;> rename_i heq
 · rename_i kT eT id k hd
   simp at heq
   rw [heq.1] at hx
   rw [heq.2] at hy
   have hu := (TI.of_ok ht t (fun e => by rw [e] at hd; cases hd)).map kT eT hd
   unfold entryE at hp ⊢
   split at hp
   · rename_i kt ik ka l hm
     unfold entryB at hp ⊢
     split at hp
     · rename_i k' hg
       split at hp
       · rename_i hc
         rw [if_pos hc]
         have hlen : l.length ≤ 1048576 := hp
         obtain ⟨kvs, e4, hro, hK, hck, hst⟩ := keyG_sound h ht hg hy
         obtain ⟨_, _, c3, _⟩ := keyG_some hg
         unfold repA repC at hx
         obtain ⟨hn, ex⟩ := hx
         simp only [rx] at ex hn
         have hb := h.blk id
         rw [hm] at hb
         obtain ⟨r, es, clock, b1, b2, hmr, hsp⟩ := hb
         simp only [rx] at b1 b2
         obtain ⟨hcl, hborn⟩ := hsp.2 rfl
         obtain ⟨hl1, hat⟩ := mapRep_at _ _ hmr
         have b5 : mapgRep (rx cx σ N m w) kt ka none (l.map Prod.fst) es.toList (es.toList.map (·.val)) := by
          refine ⟨by rw [List.length_map, hl1], by rw [List.length_map, List.length_map, hl1], fun i k en v h1 h2 h3 => ?_⟩
          rw [List.getElem?_map] at h1 h3
          obtain ⟨p, hp1, hp2⟩ := Option.map_eq_some_iff.1 h1
          obtain ⟨ks, vs, g1, g2, _, _⟩ := hat i p en hp1 h2
          rw [h2] at h3
          have h3 : en.val = v := by simpa using h3
          exact ⟨hborn i en h2, fun _ => h3, ks, g1, by rw [← hp2]; exact g2⟩
         have hfk := mapg_find (P := P) (w := w) hK hro b5
         have hz := zero_int (w := w) ht hc.1 hc.2.1 hc.2.2
         have hjle : kidx k' (l.map Prod.fst) ≤ l.length := by have := kidx_le k' (l.map Prod.fst); rwa [List.length_map] at this
         rw [e4] at hck hst
         have fin : ∀ (v : Value) (es' : Array MapEntry) (cl' : Nat), (execOp ρ o).run P w = .ok (.value (.tuple #[v, .int .i64 (kidx k' (l.map Prod.fst))])) { w with heap := w.heap.setIfInBounds r (.map es' cl') } →
          (∀ y : Rx, (rx cx σ N m w).Keeps y → mapRep y kt (.int ik) ka false (kadd l k' 0) es'.toList ∧ Stp kt (.int ik) es'.toList cl') →
          Runs P w (Res cx σ N m w fr ⟨l.length ≤ 1048576, .tup [.one .undef, .one (.int .i64 (kidx k' (l.map Prod.fst)))], [(id, .mapb kt (.int ik) ka false (kadd l k' 0))], True⟩) ((execOp ρ o).run P w) := by
          intro v es' cl' hrun hrep
          obtain ⟨f1, f2⟩ := MapKept.heap_set (o' := .map es' cl') b2
          obtain ⟨g1, g2⟩ := h.write hn (.mapb kt (.int ik) ka false (kadd l k' 0)) (b := r) (by rw [b1]; rfl) (by rw [hm]; rfl) (w' := { w with heap := w.heap.setIfInBounds r (.map es' cl') }) f2 (by simp) rfl rfl rfl (fun hk => by
           obtain ⟨k1, k2⟩ := hrep _ hk
           exact ⟨r, es', cl', b1, f1, k1, k2⟩)
          obtain ⟨g3, g4⟩ := g1.weaken (N' := Nx N fr) (fun _ k => k.1)
          refine runs_value hrun ⟨σ, g3, ⟨g2.k.trans g4.k (by simp [rx]), fun _ _ => rfl, fun _ k => k.1⟩, ?_, trivial⟩
          unfold repA
          refine ⟨_, rfl, ?_⟩
          unfold repAs
          refine ⟨_, _, rfl, ?_, ?_⟩
          · unfold repA repC; trivial
          · unfold repAs
            refine ⟨_, _, rfl, ?_, by unfold repAs; rfl⟩
            unfold repA repC
            refine ⟨rfl, ?_⟩
            unfold InR IntKind.min IntKind.max
            simp [IntKind.signed, IntKind.bits]
            omega
         by_cases hlt : kidx k' (l.map Prod.fst) < l.length
         · have hl2 : kidx k' (l.map Prod.fst) < es.toList.length := by rw [hl1]; exact hlt
           have hl4 : kidx k' (l.map Prod.fst) < es.size := by simpa using hl2
           rw [List.getElem?_eq_getElem hl2] at hfk
           obtain ⟨a, ha, hq⟩ := kidx_at k' (l.map Prod.fst) (by rw [List.length_map]; exact hlt)
           have hak : k' = a := keyEq_eq kt _ c3 k' a hq
           rw [List.getElem?_map] at ha
           obtain ⟨p, hp1, hp2⟩ := Option.map_eq_some_iff.1 ha
           obtain ⟨kvs2, vs2, d4, d5, _, _⟩ := hat _ p _ hp1 (List.getElem?_eq_getElem hl2)
           rw [hp2, ← hak] at d5
           have hks2 : kvs2 = kvs := ro_det kt _ c3 k' kvs2 kvs d5 hro
           subst hks2
           have d1 := hborn _ _ (List.getElem?_eq_getElem hl2)
           have hget : es[kidx k' (l.map Prod.fst)]? = some es.toList[kidx k' (l.map Prod.fst)] := by simp [hl4]
           have hkp : kadd l k' 0 = l := by unfold kadd; rw [if_pos hlt]
           refine fin (es.toList[kidx k' (l.map Prod.fst)]).val (es.modify (kidx k' (l.map Prod.fst)) fun e => { e with key := mkV ka kvs2 }) clock ?_ (fun y hy => ?_)
           · have e9 : (es[kidx k' (l.map Prod.fst)]).key = mkV ka kvs2 := by simpa using d4
             have d1' : (es[kidx k' (l.map Prod.fst)]).born = kidx k' (l.map Prod.fst) := by simpa using d1
             simp [d1', execOp, ho, Instr.mapEntry, run_underlying hu, ex, b1, b2, e4, hck, hfk, getObj, setObj, Sem.run, hget, e9, hst, d1, goInt]
           · rw [hkp, Array.toList_modify, modify_eq (fun e he => by rw [List.getElem?_eq_getElem hl2] at he; cases he; exact d4)]
             exact ⟨mapRep_keep hy _ _ hmr, hsp⟩
         · have hje : kidx k' (l.map Prod.fst) = l.length := by omega
           have hl2 : es.toList[kidx k' (l.map Prod.fst)]? = none := List.getElem?_eq_none (by rw [hl1]; omega)
           rw [hl2] at hfk
           have hkp : kadd l k' 0 = l ++ [(k', 0)] := by unfold kadd; rw [if_neg hlt]
           have hcl2 : clock = l.length := by rw [hcl, hl1]
           refine fin (.int ik 0) (es.push { key := mkV ka kvs, val := .int ik 0, born := clock }) (clock + 1) ?_ (fun y hy => ?_)
           · simp [execOp, ho, Instr.mapEntry, run_underlying hu, ex, b1, b2, e4, hck, hfk, hz, getObj, setObj, Sem.run, goInt, hje, hcl2]
           · rw [hkp, Array.toList_push]
             refine ⟨mapRep_append _ _ _ _ (mapRep_keep hy _ _ hmr) ⟨_, [], kvs, [.int ik 0], rfl, rfl, ro_keep hy.k _ _ _ hro, rfl, ⟨rfl, inR_zero ik⟩, rfl⟩, hsp.push rfl (keys_apart hro (x := rx cx σ N m w) (y := rx cx σ N m w) (fun e he => ?_))⟩
             obtain ⟨i, hi, rfl⟩ := List.getElem_of_mem he
             have hil : i < l.length := by rw [← hl1]; exact hi
             obtain ⟨ks, vs, g1, g2, _, _⟩ := hat i l[i] _ (List.getElem?_eq_getElem hil) (List.getElem?_eq_getElem hi)
             exact ⟨_, ks, g1, g2, kidx_before k' (l.map Prod.fst) i _ (by omega) (by rw [List.getElem?_map, List.getElem?_eq_getElem hil]; rfl)⟩
       · exact hp.elim
     · exact hp.elim
   · rename_i kt ka fid ks hm
     split at hp
     · rename_i e u xss hf
       split at hp
       · rename_i k' hg
         split at hp
         · rename_i hc
           rw [if_pos hc]
           have hlen : ks.length ≤ 1048576 := hp
           obtain ⟨kvs, e4, hro, hK, hck, hst⟩ := keyG_sound h ht hg hy
           obtain ⟨_, _, c3, _⟩ := keyG_some hg
           unfold repA repC at hx
           obtain ⟨hn, ex⟩ := hx
           simp only [rx] at ex hn
           have hb := h.blk id
           rw [hm] at hb
           obtain ⟨r, es, f, vs, b1, b2, b3, b4, b5⟩ := hb
           simp only [rx] at b1 b2 b3 b4
           have hb2 := h.blk fid
           rw [hf] at hb2
           obtain ⟨f', vs', c1, c2⟩ := hb2
           simp only [rx] at c1
           rw [b4] at c1
           cases c1
           have hfk := mapg_find (P := P) (w := w) hK hro b5
           have hz := zero_sl (w := w) ht hc.1 hc.2.1 hc.2.2
           have hxl : xss.length = ks.length := by rw [← c2.len, b5.lenv]
           have hjle : kidx k' ks ≤ xss.length := by rw [hxl]; exact kidx_le k' ks
           have hgv := fun i => hset_get (l := vs.toList) (x := Value.slice none 0 0) (by rw [c2.len]; exact hjle) i
           rw [e4] at hck hst
           have fin : ∀ (v : Value) (es' : Array MapEntry), (execOp ρ o).run P w = .ok (.value (.tuple #[v, .int .i64 (kidx k' ks)])) { w with heap := w.heap.setIfInBounds r (.map es' (kput k' ks).length) } →
            ((v = .slice none 0 0 ∧ xss.getD (kidx k' ks) [] = []) ∨ (vs.toList[kidx k' ks]? = some v ∧ xss[kidx k' ks]? = some (xss.getD (kidx k' ks) []))) →
            (∀ y : Rx, (rx cx σ N m w).Keeps y → mapgRep y kt ka (some (kidx k' ks)) (kput k' ks) es'.toList (hset vs.toList (kidx k' ks) (.slice none 0 0))) →
            Runs P w (Res cx σ N m w fr ⟨ks.length ≤ 1048576, .tup [.one (.row fr), .one (.int .i64 (kidx k' ks))], [(fid, .dead), (id, .mapg kt ka (fr + 1) (kput k' ks) (some (kidx k' ks))), (fr + 1, .fam e u (hset xss (kidx k' ks) [])), (fr, .row e u (xss.getD (kidx k' ks) []))], True⟩) ((execOp ρ o).run P w) := by
            intro v es' hrun hv hmap
            obtain ⟨σ', g1, g2, g3⟩ := lend h hfr hm hf hn b1 b2 b3 b4 c2 hjle hv hmap
            refine runs_value hrun ⟨σ', g1, g2, ?_, trivial⟩
            unfold repA
            refine ⟨_, rfl, ?_⟩
            unfold repAs
            refine ⟨_, _, rfl, ?_, ?_⟩
            · unfold repA repC
              exact ⟨fun k => k.2 ⟨by omega, by omega⟩, g3.symm⟩
            · unfold repAs
              refine ⟨_, _, rfl, ?_, by unfold repAs; rfl⟩
              unfold repA repC
              refine ⟨rfl, ?_⟩
              have := kidx_le k' ks
              unfold InR IntKind.min IntKind.max
              simp [IntKind.signed, IntKind.bits]
              omega
           by_cases hlt : kidx k' ks < ks.length
           · have hl2 : kidx k' ks < es.toList.length := by rw [b5.len]; exact hlt
             have hl3 : kidx k' ks < vs.toList.length := by rw [b5.lenv]; exact hlt
             have hl4 : kidx k' ks < es.size := by simpa using hl2
             rw [List.getElem?_eq_getElem hl2] at hfk
             obtain ⟨a, ha, hq⟩ := kidx_at k' ks hlt
             have hak : k' = a := keyEq_eq kt _ c3 k' a hq
             obtain ⟨d1, d2, kvs2, d4, d5⟩ := b5.at_ _ _ _ _ ha (List.getElem?_eq_getElem hl2) (List.getElem?_eq_getElem hl3)
             have d3 := d2 (by simp)
             rw [← hak] at d5
             have hks2 : kvs2 = kvs := ro_det kt _ c3 k' kvs2 kvs d5 hro
             subst hks2
             have hget : es[kidx k' ks]? = some es.toList[kidx k' ks] := by simp [hl4]
             have hkp : kput k' ks = ks := by unfold kput; rw [if_pos hlt]
             refine fin vs.toList[kidx k' ks] (es.modify (kidx k' ks) fun e => { e with key := mkV ka kvs2 }) ?_ (.inr ⟨List.getElem?_eq_getElem hl3, by rw [List.getElem?_eq_getElem (by omega)]; simp [show kidx k' ks < xss.length by omega]⟩) (fun y hy => ?_)
             · have e9 : (es[kidx k' ks]).key = mkV ka kvs2 := by simpa using d4
               have d1' : (es[kidx k' ks]).born = kidx k' ks := by simpa using d1
               have d3' : (es[kidx k' ks]).val = vs[kidx k' ks]'(by simpa using hl3) := by simpa using d3
               rw [hkp]
               simp [d1', d3', execOp, ho, Instr.mapEntry, run_underlying hu, ex, b1, b2, e4, hck, hfk, getObj, setObj, Sem.run, hget, e9, hst, d1, d3, goInt]
             · rw [hkp, Array.toList_modify]
               refine ⟨by rw [List.length_modify]; exact b5.len, by rw [← hset_len (l := xss) (x := ([] : List u.den)) (by rw [c2.len])]; unfold hset; rw [if_pos (by omega), List.length_set]; exact hxl, fun i k en q h1 h2 h3 => ?_⟩
               rw [List.getElem?_modify] at h2
               rw [hgv i] at h3
               obtain ⟨en0, hen0⟩ : ∃ en0, es.toList[i]? = some en0 := by
                cases hh : es.toList[i]? with
                | none => rw [hh] at h2; simp at h2
                | some en0 => exact ⟨en0, rfl⟩
               have hiv : i < vs.toList.length := by rw [b5.lenv]; exact (List.getElem?_eq_some_iff.1 h1).1
               obtain ⟨q1, q2, kvs3, q3, q4⟩ := b5.at_ i k en0 vs.toList[i] h1 hen0 (List.getElem?_eq_getElem hiv)
               by_cases hij : kidx k' ks = i
               · rw [hen0] at h2
                 simp [hij] at h2
                 subst h2
                 refine ⟨q1, fun hh => absurd rfl (by rw [hij] at hh; exact hh), kvs2, rfl, ?_⟩
                 subst hij
                 rw [ha] at h1
                 cases h1
                 rw [← hak]
                 exact ro_keep hy.k _ _ _ hro
               · rw [hen0] at h2
                 simp [hij] at h2
                 subst h2
                 rw [if_neg (fun e => hij e.symm), List.getElem?_eq_getElem hiv] at h3
                 cases h3
                 exact ⟨q1, fun _ => q2 (by simp), kvs3, q3, ro_keep hy.k _ _ _ q4⟩
           · have hje : kidx k' ks = ks.length := by have := kidx_le k' ks; omega
             have hl2 : es.toList[kidx k' ks]? = none := List.getElem?_eq_none (by rw [b5.len]; omega)
             rw [hl2] at hfk
             have hl3 : xss.getD (kidx k' ks) [] = [] := by
              simp [List.getD, List.getElem?_eq_none (show xss.length ≤ kidx k' ks by omega)]
             have hkp : kput k' ks = ks ++ [k'] := by unfold kput; rw [if_neg hlt]
             refine fin (.slice none 0 0) (es.push { key := mkV ka kvs, val := .slice none 0 0, born := ks.length }) ?_ (.inl ⟨rfl, hl3⟩) (fun y hy => ?_)
             · rw [hkp, List.length_append, List.length_singleton]
               simp [execOp, ho, Instr.mapEntry, run_underlying hu, ex, b1, b2, e4, hck, hfk, hz, getObj, setObj, Sem.run, goInt, hje]
             · have hhs : hset vs.toList (kidx k' ks) (.slice none 0 0) = vs.toList ++ [.slice none 0 0] := by
                unfold hset; rw [if_neg (by rw [b5.lenv]; omega)]
               rw [hkp, Array.toList_push, hhs]
               refine ⟨by simp only [List.length_append, List.length_singleton, b5.len], by simp only [List.length_append, List.length_singleton, b5.lenv], fun i k en q h1 h2 h3 => ?_⟩
               have l1 := b5.len
               have l2 := b5.lenv
               rw [List.getElem?_append] at h1 h2 h3
               by_cases hi : i < ks.length
               · rw [if_pos hi] at h1
                 rw [if_pos (by omega)] at h2 h3
                 obtain ⟨q1, q2, kvs3, q3, q4⟩ := b5.at_ i k en q h1 h2 h3
                 exact ⟨q1, fun _ => q2 (by simp), kvs3, q3, ro_keep hy.k _ _ _ q4⟩
               · rw [if_neg hi] at h1
                 rw [if_neg (by omega)] at h2 h3
                 have hi0 : i - ks.length = 0 := by
                  by_cases hz0 : i - ks.length = 0
                  · exact hz0
                  · rw [List.getElem?_eq_none (by simp; omega)] at h1; cases h1
                 have hik : i = ks.length := by omega
                 rw [hi0] at h1
                 rw [l1, hi0] at h2
                 rw [l2, hi0] at h3
                 simp at h1 h2 h3
                 subst h1 h2 h3
                 exact ⟨hik.symm, fun hh => rfl, kvs, rfl, ro_keep hy.k _ _ _ hro⟩
         · exact hp.elim
       · exact hp.elim
     · exact hp.elim
   · exact hp.elim
 · exact hp.elim
theorem s_entryStore (h : RepM cx σ N m w) (hfr : ∀ id, fr ≤ id → id < fr + 32 → N id) {t : TypeId} {x y z : Operand} (ho : o.op = .entryStore t x y z) (hx : repA (rx cx σ N m w) (av x) (ρ x)) (hy : repA (rx cx σ N m w) (av y) (ρ y)) (hz : repA (rx cx σ N m w) (av z) (ρ z))
 (hp : (opEff T G o [av x, av y, av z] m fr).pre) : Runs P w (Res cx σ N m w fr (opEff T G o [av x, av y, av z] m fr)) ((execOp ρ o).run P w) := by
 simp only [opEff, ho] at hp ⊢
 split at hp <;> rename_i heq
 · rename_i id b r0
   simp at heq
   rw [heq.1] at hx
   rw [heq.2.1] at hy
   rw [heq.2.2] at hz
   unfold backE at hp ⊢
   split at hp
   · rename_i kt ka fid ks j hm
     split at hp
     · rename_i e u xss hf
       split at hp
       · rename_i e' u' zs0 hr0
         split at hp
         · rename_i zs hzs
           split at hp
           · rename_i hee
             rw [if_pos hee]
             obtain ⟨hbj, hjl⟩ : b = (j : Int) ∧ j < ks.length := hp
             have hee' : e' = e := hee
             subst hee'
             obtain ⟨rfl, hzz⟩ : ∃ h : u' = u, h ▸ zs0 = zs := by
              unfold castTy at hzs
              split at hzs
              · rename_i hh; exact ⟨hh, by simpa using hzs⟩
              · cases hzs
             simp only at hzz
             subst hzz
             unfold repA repC at hx hy hz
             obtain ⟨hn, ex⟩ := hx
             obtain ⟨hn0, ez⟩ := hz
             simp only [rx] at ex hn ez hn0
             have hb := h.blk id
             rw [hm] at hb
             obtain ⟨r, es, f, vs, b1, b2, b3, b4, b5⟩ := hb
             simp only [rx] at b1 b2 b3 b4
             have hb2 := h.blk fid
             rw [hf] at hb2
             obtain ⟨f', vs', c1, c2⟩ := hb2
             simp only [rx] at c1
             rw [b4] at c1
             cases c1
             have hb3 := h.blk r0
             rw [hr0] at hb3
             obtain ⟨n0, flat0, rfl, d1, d2⟩ := hb3
             simp only [rx] at d1 d2
             have hxl : xss.length = ks.length := by rw [← c2.len, b5.lenv]
             have hl2 : j < es.toList.length := by rw [b5.len]; exact hjl
             have hl3 : j < vs.toList.length := by rw [b5.lenv]; exact hjl
             have hl4 : j < es.size := by simpa using hl2
             have k0 : N fr := hfr fr (by omega) (by omega)
             have ne1 : id ≠ fid := fun k => by rw [k, hf] at hm; cases hm
             have ne2 : id ≠ r0 := fun k => by rw [k, hr0] at hm; cases hm
             have ne3 : fid ≠ r0 := fun k => by rw [k, hr0] at hf; cases hf
             have ne4 : id ≠ fr := fun k => hn (k ▸ k0)
             have ne5 : fid ≠ fr := fun k => b3 (k ▸ k0)
             have ne6 : r0 ≠ fr := fun k => hn0 (k ▸ k0)
             have ofid : own (m fid) = true := by rw [hf]; rfl
             have oid : own (m id) = true := by rw [hm]; rfl
             have or0 : own (m r0) = true := by rw [hr0]; rfl
             have hbf : ∀ (i : Nat) u b, vs.toList[i]? = some u → blkOf u = some b → hb (σ fid) b := fun i u b hu hb => by rw [b4]; exact hb_fam.2 ⟨u, List.mem_of_getElem? hu, hb⟩
             -- the place that is asked for is the one that lent its row
             have hborn : ∀ (i : Nat) (hi : i < es.toList.length), (es.toList[i]).born = i := fun i hi => by
              have hi2 : i < ks.length := by rw [← b5.len]; exact hi
              exact (b5.at_ i ks[i] es.toList[i] (vs.toList[i]'(by rw [b5.lenv]; exact hi2)) (List.getElem?_eq_getElem hi2) (List.getElem?_eq_getElem hi) (List.getElem?_eq_getElem _)).1
             have hfind : es.findIdx? (fun e => (e.born : Int) == b) = some j := by
              rw [Array.findIdx?_eq_some_iff_getElem]
              refine ⟨hl4, ?_, fun i hi => ?_⟩
              · have := hborn j hl2
                simp at this
                simp [this, hbj]
              · have := hborn i (by simp; omega)
                simp at this
                simp [this, hbj]
                omega
             have hrun : (execOp ρ o).run P w = .ok .skip { w with heap := w.heap.setIfInBounds r (.map (es.modify j fun e => { e with val := σ r0 }) ks.length) } := by
              simp [execOp, ho, Instr.entryStore, ex, b1, b2, hy.1, asInt, asIntOf, hfind, ez, getObj, setObj, Sem.run]
             obtain ⟨f1, f2⟩ := MapKept.heap_set (o' := .map (es.modify j fun e => { e with val := σ r0 }) ks.length) b2
             let m' : Mem := upd (upd (upd (upd m fid .dead) r0 .dead) id (.mapg kt ka fr ks none)) fr (.fam e' u' (xss.set j zs0))
             let vs2 := vs.toList.set j (σ r0)
             let σ' : Nat → Value := upd σ fr (.func (.func 0) #[] vs2.toArray)
             have m1 : m' fid = .dead := by simp only [m']; rw [upd_ne _ _ ne5, upd_ne _ _ (fun k => ne1 k.symm), upd_ne _ _ ne3, upd_same]
             have m2 : m' r0 = .dead := by simp only [m']; rw [upd_ne _ _ ne6, upd_ne _ _ (fun k => ne2 k.symm), upd_same]
             have m3 : m' id = .mapg kt ka fr ks none := by simp only [m']; rw [upd_ne _ _ ne4, upd_same]
             have m4 : m' fr = .fam e' u' (xss.set j zs0) := upd_same _ _ _
             have m5 : ∀ i, i ≠ id → i ≠ fid → i ≠ r0 → i ≠ fr → m' i = m i := fun i h1 h2 h3 h4 => by simp only [m']; rw [upd_ne _ _ h4, upd_ne _ _ h1, upd_ne _ _ h3, upd_ne _ _ h2]
             have s1 : σ' fr = .func (.func 0) #[] vs2.toArray := upd_same _ _ _
             have s2 : ∀ i, i ≠ fr → σ' i = σ i := fun i h1 => upd_ne _ _ h1
             have hr0b : ∀ b, blkOf (σ r0) = some b → hb (σ r0) b := fun b hb => .inl hb
             have hvs : ∀ (i : Nat) q, vs2[i]? = some q → (i = j ∧ q = σ r0) ∨ (i ≠ j ∧ vs.toList[i]? = some q) := fun i q hq => by
              simp only [vs2] at hq
              rw [List.getElem?_set] at hq
              by_cases hij : j = i
              · subst hij
                rw [if_pos rfl, if_pos hl3] at hq
                exact .inl ⟨rfl, by simpa using hq.symm⟩
              · rw [if_neg hij] at hq
                exact .inr ⟨fun e => hij e.symm, hq⟩
             have hfb : ∀ b, hb (σ' fr) b → hb (σ fid) b ∨ hb (σ r0) b := fun b hb => by
              rw [s1, hb_fam] at hb
              obtain ⟨q, hq, hqb⟩ := hb
              obtain ⟨i, hi, rfl⟩ := List.getElem_of_mem hq
              have hi2 := List.getElem?_eq_getElem hi
              simp only [List.toList_toArray] at hi2 hi hqb
              rcases hvs i _ hi2 with ⟨_, h2⟩ | ⟨_, h2⟩
              · rw [h2] at hqb; exact .inr (hr0b b hqb)
              · exact .inl (hbf i _ b h2 hqb)
             obtain ⟨k1, k2⟩ := h.step (σ' := σ') (N' := Nx N fr) (m' := m') (w' := { w with heap := w.heap.setIfInBounds r (.map (es.modify j fun e => { e with val := σ r0 }) ks.length) }) (fun i => i = id ∨ i = fid ∨ i = r0 ∨ i = fr) (fun i k => k.1)
              (fun i k => by
                have h1 : i ≠ fr := fun e => k.2 ⟨by omega, by omega⟩
                rw [m5 i (fun e => hn (e ▸ k.1)) (fun e => b3 (e ▸ k.1)) (fun e => hn0 (e ▸ k.1)) h1]; exact h.fresh i k.1)
              (fun i k => by simp only [not_or] at k; exact ⟨m5 i k.1 k.2.1 k.2.2.1 k.2.2.2, s2 i k.2.2.2⟩)
              (fun i k => s2 i (fun e => k (e ▸ k0)))
              (fun b _ hx => f2 b (fun e => hx id (.inl rfl) oid (by rw [b1, e]; exact .inl rfl))) ⟨by simp, Nat.le_refl _⟩ rfl rfl rfl
              (fun i b hi ho hbb => by
                rcases hi with rfl | rfl | rfl | rfl
                · rw [s2 _ ne4] at hbb
                  exact .inr ⟨i, .inl rfl, oid, hbb⟩
                · rw [m1] at ho; cases ho
                · rw [m2] at ho; cases ho
                · rcases hfb b hbb with h1 | h1
                  · exact .inr ⟨fid, .inr (.inl rfl), ofid, h1⟩
                  · exact .inr ⟨r0, .inr (.inr (.inl rfl)), or0, h1⟩)
              (fun i i' b hi hi' ho ho' hb1 hb2 => by
                have kx : hb (σ' id) b → hb (σ' fr) b → False := fun h1 h2 => by
                 rw [s2 _ ne4] at h1
                 rcases hfb b h2 with h3 | h3
                 · exact ne1 (h.inj _ _ b oid ofid h1 h3)
                 · exact ne2 (h.inj _ _ b oid or0 h1 h3)
                rcases hi with rfl | rfl | rfl | rfl <;> rcases hi' with rfl | rfl | rfl | rfl
                · rfl
                · rw [m1] at ho'; cases ho'
                · rw [m2] at ho'; cases ho'
                · exact (kx hb1 hb2).elim
                · rw [m1] at ho; cases ho
                · rfl
                · rw [m1] at ho; cases ho
                · rw [m1] at ho; cases ho
                · rw [m2] at ho; cases ho
                · rw [m2] at ho; cases ho
                · rfl
                · rw [m2] at ho; cases ho
                · exact (kx hb2 hb1).elim
                · rw [m1] at ho'; cases ho'
                · rw [m2] at ho'; cases ho'
                · rfl)
              (fun i hi => by
                rcases hi with rfl | rfl | rfl | rfl
                · rw [s2 _ ne4]; exact h.hone _
                · rw [s2 _ ne5]; exact h.hone _
                · rw [s2 _ ne6]; exact h.hone _
                · rw [s1]; rfl)
              (fun hk i hi => by
                have hblk : ∀ q b, (hb (σ fid) b ∨ hb (σ r0) b) → blkOf q = some b → (w.heap.setIfInBounds r (.map (es.modify j fun e => { e with val := σ r0 }) ks.length))[b]? = w.heap[b]? := fun q b hq _ => by
                 refine f2 b fun e => ?_
                 have h2 : hb (σ id) b := by rw [b1, e]; exact .inl rfl
                 rcases hq with hq | hq
                 · exact ne1 (h.inj id fid b oid ofid h2 hq)
                 · exact ne2 (h.inj id r0 b oid or0 h2 hq)
                rcases hi with rfl | rfl | rfl | rfl
                · rw [m3]
                  refine ⟨r, es.modify j fun e => { e with val := σ r0 }, .func 0, vs2.toArray, by simp only [rx]; rw [s2 _ ne4]; exact b1, f1, fun k => k.2 ⟨by omega, by omega⟩, s1, ?_⟩
                  simp only [List.toList_toArray, Array.toList_modify]
                  refine ⟨by rw [List.length_modify]; exact b5.len, by simp only [vs2]; rw [List.length_set]; exact b5.lenv, fun i k en q h1 h2 h3 => ?_⟩
                  rw [List.getElem?_modify] at h2
                  obtain ⟨en0, hen0⟩ : ∃ en0, es.toList[i]? = some en0 := by
                   cases hh : es.toList[i]? with
                   | none => rw [hh] at h2; simp at h2
                   | some en0 => exact ⟨en0, rfl⟩
                  have hiv : i < vs.toList.length := by rw [b5.lenv]; exact (List.getElem?_eq_some_iff.1 h1).1
                  obtain ⟨q1, q2, kvs3, q3, q4⟩ := b5.at_ i k en0 vs.toList[i] h1 hen0 (List.getElem?_eq_getElem hiv)
                  rw [hen0] at h2
                  rcases hvs i q h3 with ⟨hij, hq⟩ | ⟨hij, hq⟩
                  · subst hij
                    simp at h2
                    subst h2
                    exact ⟨q1, fun _ => hq.symm, kvs3, q3, ro_keep hk.k _ _ _ q4⟩
                  · simp [show ¬ j = i from fun e => hij e.symm] at h2
                    subst h2
                    rw [List.getElem?_eq_getElem hiv] at hq
                    cases hq
                    exact ⟨q1, fun _ => q2 (by simpa using fun e => hij e.symm), kvs3, q3, ro_keep hk.k _ _ _ q4⟩
                · rw [m1]; trivial
                · rw [m2]; trivial
                · rw [m4]
                  refine ⟨.func 0, vs2.toArray, s1, ?_⟩
                  simp only [List.toList_toArray]
                  refine ⟨by simp only [vs2]; rw [List.length_set, List.length_set]; exact c2.len, fun i xs q h1 h2 => ?_, fun i i2 q q2 b h1 h2 h3 h4 => ?_⟩
                  · rcases hvs i q h2 with ⟨hij, hq⟩ | ⟨hij, hq⟩
                    · subst hij hq
                      rw [List.getElem?_set, if_pos rfl, if_pos (by omega)] at h1
                      simp only [Option.some.injEq] at h1
                      subst h1
                      exact ⟨h.hone r0, flat0, rowR_of_block d1 (fun g hg => hblk _ g (.inr (hr0b g hg)) hg), roAll_mono (ro_keep hk.k u') _ _ d2⟩
                    · rw [List.getElem?_set, if_neg (fun e => hij e.symm)] at h1
                      obtain ⟨g1, flat, g2, g3⟩ := c2.row i xs q h1 hq
                      exact ⟨g1, flat, rowR_of_block g2 (fun g hg => hblk q g (.inl (hbf i q g hq hg)) hg), roAll_mono (ro_keep hk.k u') _ _ g3⟩
                  · rcases hvs i q h1 with ⟨hij, hq⟩ | ⟨hij, hq⟩ <;> rcases hvs i2 q2 h2 with ⟨hij2, hq2⟩ | ⟨hij2, hq2⟩
                    · rw [hij, hij2]
                    · rw [hq] at h3
                      exact absurd (h.inj fid r0 b ofid or0 (hbf i2 q2 b hq2 h4) (hr0b b h3)) ne3
                    · rw [hq2] at h4
                      exact absurd (h.inj fid r0 b ofid or0 (hbf i q b hq h3) (hr0b b h4)) ne3
                    · exact c2.inj i i2 q q2 b hq hq2 h3 h4)
             refine runs_skip hrun ⟨σ', k1, k2, ?_, trivial⟩
             unfold repA repC; trivial
           · exact hp.elim
         · exact hp.elim
       · exact hp.elim
     · exact hp.elim
   · exact hp.elim
 · rename_i id b ik n
   simp at heq
   rw [heq.1] at hx
   rw [heq.2.1] at hy
   rw [heq.2.2] at hz
   unfold storeB at hp ⊢
   split at hp
   · rename_i kt ik' ka l hm
     split at hp
     · rename_i hc
       subst hc
       rw [if_pos rfl]
       obtain ⟨h0, h1⟩ : 0 ≤ b ∧ b < l.length := hp
       unfold repA repC at hx hy hz
       obtain ⟨hn, ex⟩ := hx
       obtain ⟨ey, _⟩ := hy
       obtain ⟨ez, hin⟩ := hz
       simp only [rx] at ex hn
       have hb := h.blk id
       rw [hm] at hb
       obtain ⟨r, es, clock, b1, b2, hmr, hsp⟩ := hb
       simp only [rx] at b1 b2
       obtain ⟨hcl, hborn⟩ := hsp.2 rfl
       obtain ⟨hl1, hat⟩ := mapRep_at _ _ hmr
       obtain ⟨j, rfl⟩ : ∃ j : Nat, b = j := ⟨b.toNat, by omega⟩
       have hjl : j < l.length := by omega
       have hl2 : j < es.toList.length := by rw [hl1]; exact hjl
       have hl4 : j < es.size := by simpa using hl2
       have hfind : es.findIdx? (fun e => (e.born : Int) == (j : Int)) = some j := by
        rw [Array.findIdx?_eq_some_iff_getElem]
        refine ⟨hl4, ?_, fun i hi => ?_⟩
        · have := hborn j _ (List.getElem?_eq_getElem hl2)
          simp at this
          simp [this]
        · have := hborn i _ (List.getElem?_eq_getElem (show i < es.toList.length by omega))
          simp at this
          simp [this]
          omega
       obtain ⟨pre, e, post, hes, hpl⟩ : ∃ pre e post, es.toList = pre ++ e :: post ∧ pre.length = j :=
        ⟨es.toList.take j, es.toList[j], es.toList.drop (j + 1), by rw [← List.drop_eq_getElem_cons hl2, List.take_append_drop], by rw [List.length_take]; omega⟩
       obtain ⟨f1, f2⟩ := MapKept.heap_set (o' := .map (es.modify j fun e => { e with val := .int ik' n }) clock) b2
       obtain ⟨g1, g2⟩ := h.write hn (.mapb kt (.int ik') ka false (l.modify j fun e => (e.1, n))) (b := r) (by rw [b1]; rfl) (by rw [hm]; rfl) (w' := { w with heap := w.heap.setIfInBounds r (.map (es.modify j fun e => { e with val := .int ik' n }) clock) }) f2 (by simp) rfl rfl rfl (fun hk => by
        refine ⟨r, _, clock, b1, f1, mapRep_of _ _ (by rw [Array.toList_modify, List.length_modify, List.length_modify, hl1]) (fun i p en hp he => ?_), ?_⟩
        · rw [Array.toList_modify, List.getElem?_modify] at he
          rw [List.getElem?_modify] at hp
          by_cases hil : i < l.length
          · rw [List.getElem?_eq_getElem hil] at hp
            rw [List.getElem?_eq_getElem (show i < es.toList.length by rw [hl1]; exact hil)] at he
            obtain ⟨ks, vs, q1, q2, q3, q4⟩ := hat i _ _ (List.getElem?_eq_getElem hil) (List.getElem?_eq_getElem (show i < es.toList.length by rw [hl1]; exact hil))
            by_cases hij : j = i
            · have hp : (l[i].1, n) = p := by simpa [hij] using hp
              have he : ({ es.toList[i]'(by rw [hl1]; exact hil) with val := Value.int ik' n } : MapEntry) = en := by simpa [hij] using he
              rw [← hp, ← he]
              exact ⟨ks, [.int ik' n], q1, ro_keep hk.k _ _ _ q2, rfl, ⟨rfl, hin⟩⟩
            · have hp : l[i] = p := by simpa [hij] using hp
              have he : es.toList[i]'(by rw [hl1]; exact hil) = en := by simpa [hij] using he
              rw [← hp, ← he]
              exact ⟨ks, vs, q1, ro_keep hk.k _ _ _ q2, q3, ro_keep hk.k _ _ _ q4⟩
          · rw [List.getElem?_eq_none (by omega)] at hp
            simp at hp
        · rw [Array.toList_modify, hes, ← hpl, modify_mid]
          rw [hes] at hsp
          exact hsp.mid rfl rfl)
       obtain ⟨g3, g4⟩ := g1.weaken (N' := Nx N fr) (fun _ k => k.1)
       have hrun : (execOp ρ o).run P w = .ok .skip { w with heap := w.heap.setIfInBounds r (.map (es.modify j fun e => { e with val := .int ik' n }) clock) } := by
        simp [execOp, ho, Instr.entryStore, ex, b1, b2, ey, asInt, asIntOf, hfind, ez, getObj, setObj, Sem.run]
       refine runs_skip hrun ⟨σ, g3, ⟨g2.k.trans g4.k (by simp [rx]), fun _ _ => rfl, fun _ k => k.1⟩, ?_, trivial⟩
       unfold repA repC; trivial
     · exact hp.elim
   · exact hp.elim
 · exact hp.elim
end
end Go.Ev

/- Rows whose elements have rows: an element's row is lent out and given back. -/
set_option linter.unusedSimpArgs false
set_option linter.unusedVariables false
namespace Go.Ev

section
variable {cx : Cx} {σ : Nat → Value} {N : Nat → Prop} {m : Mem} {w : World} {P : Program} {T : Tab} {G : Env} {o : Oper} {fr : Nat} {ρ : Operand → Value} {av : Operand → AV}

theorem zip_set2 {α β : Type} : ∀ (xs : List α) (ys : List β) (i : Nat) (x : α) (y : β), (xs.set i x).zip (ys.set i y) = (xs.zip ys).set i (x, y)
 | [], _, _, _, _ => by simp
 | _ :: _, [], i, _, _ => by cases i <;> simp
 | a :: xs, b :: ys, 0, _, _ => by simp
 | a :: xs, b :: ys, i + 1, x, y => by simp [zip_set2 xs ys i x y]
theorem set_self {α : Type} {xs : List α} {i : Nat} (h : i < xs.length) : xs.set i xs[i] = xs := by
 apply List.ext_getElem?
 intro j
 rw [List.getElem?_set]
 split
 · rename_i e; subst e; simp [h]
 · rfl
theorem holed_len (vs : List Value) (h : Option Nat) : (holed vs h).length = vs.length := by cases h <;> simp [holed]
theorem elG_at {x : Rx} {t : Ty} {p : Nat} {xs : List t.den} {hs : List (Option Value)} {flat : List Value} (h : roAll (elG x t p) (xs.zip hs) flat) (hl : hs.length = xs.length) {i : Nat} (hi : i < xs.length) :
 ∃ pre c post, flat = pre ++ (c ++ post) ∧ pre.length = i * t.n ∧ elG x t p (xs[i], hs[i]'(by omega)) c ∧ roAll (elG x t p) ((xs.zip hs).take i) pre ∧ roAll (elG x t p) ((xs.zip hs).drop (i + 1)) post := by
 obtain ⟨pre, c, post, h1, h2, h3, h4, h5⟩ := roAll_at (fun q c => elG_len (x := x) (t := t) (p := p) q c) h (i := i) (by simp; omega)
 rw [List.getElem_zip] at h3
 exact ⟨pre, c, post, h1, h2, h3, h4, h5⟩
theorem elG_weak {x : Rx} {t : Ty} {p : Nat} {y : t.den} {q : Option Value} {c : List Value} (h : elG x t p (y, q) c) : elG x t p (y, none) c :=
 ⟨h.1, fun v e => (by cases e), h.2.2.1, h.2.2.2⟩

theorem fam_one {x : Rx} {e : TypeId} {t : Ty} {xss : List (List t.den)} {vs : List Value} (k : famRep x e t xss vs) {i : Nat} {v : Value} (h : vs[i]? = some v) : v.oneCell' = true ∧ ∃ a n c, v = .slice a n c := by
 have hi := (List.getElem?_eq_some_iff.1 h).1
 have hi2 : i < xss.length := by rw [← k.len]; exact hi
 obtain ⟨h1, flat, h2, _⟩ := k.row i xss[i] v (List.getElem?_eq_getElem hi2) h
 rcases h2.2 with ⟨_, a, e1⟩ | ⟨g, cap, cur, _, e1, _⟩
 · exact ⟨h1, _, _, _, e1⟩
 · exact ⟨h1, _, _, _, e1⟩

/-- The ghost step of a loan. -/
theorem lend_row (h : RepM cx σ N m w) (hfr : ∀ id, fr ≤ id → id < fr + 32 → N id) {id fid : Nat} {e e2 : TypeId} {t u : Ty} {p : Nat} {xs : List t.den} {xss : List (List u.den)} (hn : ¬ N id) (hm : m id = .rowg e t p fid xs none) (hf : m fid = .fam e2 u xss) {i : Nat} (hi : i < xs.length) {pr q : Prop} (hq : q) :
 ∃ v, (∀ b n c, σ id = .slice (some ⟨b, 0, none⟩) n c → w.cell? ⟨b, i * t.n + p, none⟩ = some v) ∧ v.oneCell' = true ∧ (∃ a c, v = .slice a (xss.getD i []).length c ∧ (xss.getD i []).length ≤ c ∧ c ≤ maxLen ∧ (a = none → (xss.getD i []).length = 0)) ∧
 Res cx σ N m w fr ⟨pr, .one (.row fr), [(fid, .dead), (id, .rowg e t p (fr + 1) xs (some i)), (fr + 1, .fam e2 u (xss.set i [])), (fr, .row e2 u (xss.getD i []))], q⟩ v w := by
 have hb := h.blk id
 rw [hm] at hb
 obtain ⟨f, vs, flat, b1, b2, b3, b4, b5⟩ := hb
 simp only [rx] at b1 b2 b4
 have hb2 := h.blk fid
 rw [hf] at hb2
 obtain ⟨f', vs', c1, c2⟩ := hb2
 simp only [rx] at c1
 rw [b2] at c1
 cases c1
 have n0 : N fr := hfr fr (by omega) (by omega)
 have n1 : N (fr + 1) := hfr (fr + 1) (by omega) (by omega)
 have ne1 : id ≠ fid := fun k => by rw [k, hf] at hm; cases hm
 have ne2 : id ≠ fr := fun k => hn (k ▸ n0)
 have ne3 : id ≠ fr + 1 := fun k => hn (k ▸ n1)
 have ne4 : fid ≠ fr := fun k => b1 (k ▸ n0)
 have ne5 : fid ≠ fr + 1 := fun k => b1 (k ▸ n1)
 have ne6 : fr + 1 ≠ fr := by omega
 have oid : own (m id) = true := by rw [hm]; rfl
 have ofid : own (m fid) = true := by rw [hf]; rfl
 have hxl : xss.length = xs.length := by rw [← b3]; exact c2.len.symm
 have hiv : i < vs.toList.length := by omega
 obtain ⟨v, hv⟩ : ∃ v, vs.toList[i]? = some v := ⟨_, List.getElem?_eq_getElem hiv⟩
 have hxi : xss[i]? = some (xss.getD i []) := by rw [List.getD_eq_getElem?_getD, List.getElem?_eq_getElem (by omega)]; rfl
 obtain ⟨r1, fl0, r2, r3⟩ := c2.row i _ v hxi hv
 obtain ⟨pre, c, post, e1, e3, e4, e5, e6⟩ := elG_at b5 (by rw [holed_len]; exact b3) hi
 have hcv : c[p]? = some v := e4.2.1 v (by
  have hh : (holed vs.toList none)[i]? = some (some v) := by simp only [holed, List.getElem?_map, hv, Option.map_some]
  rw [List.getElem?_eq_getElem (by rw [holed_len]; omega)] at hh
  simpa using hh)
 have hlc : c.length = t.n := elG_len _ _ e4
 refine ⟨v, fun b n cc hs => ?_, r1, ?_, ?_⟩
 · have h0 : blkOf (σ id) = some b := by
    rcases b4.2 with ⟨k0, _⟩ | ⟨g, cap, cur, hz, q1, _⟩
    · omega
    · rw [q1] at hs ⊢; cases hs; exact blkOf_slice hz
   have := rowR_cells b4 h0 (i * t.n + p) v (by
    rw [e1, List.getElem?_append_right (by omega), e3, Nat.add_sub_cancel_left, List.getElem?_append_left e4.1]; exact hcv)
   exact this
 · rcases r2.2 with ⟨k0, a, q1⟩ | ⟨g, cap, cur, hz, q1, _, q2, q3, _⟩
   · exact ⟨a, 0, by rw [k0]; exact q1, by omega, by simp [maxLen], fun _ => k0⟩
   · exact ⟨_, cap, q1, q2, q3, fun k => by cases k⟩
 have hbf : ∀ (j : Nat) q b, vs.toList[j]? = some q → blkOf q = some b → hb (σ fid) b := fun j q b hq hb => by rw [b2]; exact hb_fam.2 ⟨q, List.mem_of_getElem? hq, hb⟩
 have hvs : ∃ a n c, v = .slice a n c := (fam_one c2 hv).2
 have hvb : ∀ b, hb v b → blkOf v = some b := fun b hb => by
  obtain ⟨a, n, c, e⟩ := hvs
  rw [e] at hb ⊢; exact hb_slice.1 hb
 let vs2 := vs.toList.set i (.slice none 0 0)
 have hv2 : ∀ j q, vs2[j]? = some q → (j = i ∧ q = .slice none 0 0) ∨ (j ≠ i ∧ vs.toList[j]? = some q) := fun j q hq => by
  simp only [vs2] at hq
  rw [List.getElem?_set] at hq
  by_cases hij : i = j
  · subst hij
    rw [if_pos rfl, if_pos hiv] at hq
    exact .inl ⟨rfl, by simpa using hq.symm⟩
  · rw [if_neg hij] at hq
    exact .inr ⟨fun e => hij e.symm, hq⟩
 have nb : ∀ b, blkOf (.slice none 0 0) ≠ some b := fun b => by simp [blkOf]
 let m' : Mem := upd (upd (upd (upd m fid .dead) id (.rowg e t p (fr + 1) xs (some i))) (fr + 1) (.fam e2 u (xss.set i []))) fr (.row e2 u (xss.getD i []))
 let σ' : Nat → Value := upd (upd σ (fr + 1) (.func (.func 0) #[] vs2.toArray)) fr v
 have m1 : m' fid = .dead := by simp only [m']; rw [upd_ne _ _ ne4, upd_ne _ _ ne5, upd_ne _ _ (fun k => ne1 k.symm), upd_same]
 have m2 : m' id = .rowg e t p (fr + 1) xs (some i) := by simp only [m']; rw [upd_ne _ _ ne2, upd_ne _ _ ne3, upd_same]
 have m3 : m' (fr + 1) = .fam e2 u (xss.set i []) := by simp only [m']; rw [upd_ne _ _ ne6, upd_same]
 have m4 : m' fr = .row e2 u (xss.getD i []) := upd_same _ _ _
 have m5 : ∀ j, j ≠ id → j ≠ fid → j ≠ fr → j ≠ fr + 1 → m' j = m j := fun j h1 h2 h3 h4 => by simp only [m']; rw [upd_ne _ _ h3, upd_ne _ _ h4, upd_ne _ _ h1, upd_ne _ _ h2]
 have s1 : σ' fr = v := upd_same _ _ _
 have s2 : σ' (fr + 1) = .func (.func 0) #[] vs2.toArray := by simp only [σ']; rw [upd_ne _ _ ne6, upd_same]
 have s3 : ∀ j, j ≠ fr → j ≠ fr + 1 → σ' j = σ j := fun j h1 h2 => by simp only [σ']; rw [upd_ne _ _ h1, upd_ne _ _ h2]
 have kfr : ∀ b, hb (σ' fr) b → blkOf v = some b ∧ hb (σ fid) b := fun b hbb => by
  rw [s1] at hbb
  exact ⟨hvb b hbb, hbf i v b hv (hvb b hbb)⟩
 have kf1 : ∀ b, hb (σ' (fr + 1)) b → ∃ j q, j ≠ i ∧ vs.toList[j]? = some q ∧ blkOf q = some b := fun b hbb => by
  rw [s2, hb_fam] at hbb
  obtain ⟨q, hq, hqb⟩ := hbb
  obtain ⟨j, hj, rfl⟩ := List.getElem_of_mem hq
  have hj2 := List.getElem?_eq_getElem hj
  simp only [List.toList_toArray] at hj2 hj hqb
  rcases hv2 j _ hj2 with ⟨_, h2⟩ | ⟨h1, h2⟩
  · rw [h2] at hqb; exact absurd hqb (nb b)
  · exact ⟨j, _, h1, h2, hqb⟩
 have kf2 : ∀ b, hb (σ' (fr + 1)) b → hb (σ fid) b := fun b hbb => by
  obtain ⟨j, q, _, h1, h2⟩ := kf1 b hbb
  exact hbf j q b h1 h2
 have kid : ∀ b, hb (σ' id) b → hb (σ id) b := fun b hbb => by rw [s3 id ne2 ne3] at hbb; exact hbb
 have kx : ∀ b, hb (σ' fr) b → hb (σ' (fr + 1)) b → False := fun b h1 h2 => by
  obtain ⟨j, q, hji, g1, g2⟩ := kf1 b h2
  exact hji (c2.inj j i q v b g1 hv g2 (kfr b h1).1)
 obtain ⟨k1, k2⟩ := h.step (σ' := σ') (N' := Nx N fr) (m' := m') (w' := w) (fun j => j = id ∨ j = fid ∨ j = fr ∨ j = fr + 1) (fun j k => k.1)
  (fun j k => by
    have h1 : j ≠ fr := fun e => k.2 ⟨by omega, by omega⟩
    have h2 : j ≠ fr + 1 := fun e => k.2 ⟨by omega, by omega⟩
    rw [m5 j (fun e => hn (e ▸ k.1)) (fun e => b1 (e ▸ k.1)) h1 h2]; exact h.fresh j k.1)
  (fun j k => by simp only [not_or] at k; exact ⟨m5 j k.1 k.2.1 k.2.2.1 k.2.2.2, s3 j k.2.2.1 k.2.2.2⟩)
  (fun j k => s3 j (fun e => k (e ▸ n0)) (fun e => k (e ▸ n1)))
  (fun b _ _ => rfl) ⟨Nat.le_refl _, Nat.le_refl _⟩ rfl rfl rfl
  (fun j b hi ho hbb => by
    rcases hi with rfl | rfl | rfl | rfl
    · exact .inr ⟨_, .inl rfl, oid, kid b hbb⟩
    · rw [m1] at ho; cases ho
    · exact .inr ⟨fid, .inr (.inl rfl), ofid, (kfr b hbb).2⟩
    · exact .inr ⟨fid, .inr (.inl rfl), ofid, kf2 b hbb⟩)
  (fun j j' b hi hi' ho ho' hb1 hb2 => by
    rcases hi with rfl | rfl | rfl | rfl <;> rcases hi' with rfl | rfl | rfl | rfl
    · rfl
    · rw [m1] at ho'; cases ho'
    · exact absurd (h.inj _ _ b oid ofid (kid b hb1) (kfr b hb2).2) ne1
    · exact absurd (h.inj _ _ b oid ofid (kid b hb1) (kf2 b hb2)) ne1
    · rw [m1] at ho; cases ho
    · rfl
    · rw [m1] at ho; cases ho
    · rw [m1] at ho; cases ho
    · exact absurd (h.inj _ _ b oid ofid (kid b hb2) (kfr b hb1).2) ne1
    · rw [m1] at ho'; cases ho'
    · rfl
    · exact (kx b hb1 hb2).elim
    · exact absurd (h.inj _ _ b oid ofid (kid b hb2) (kf2 b hb1)) ne1
    · rw [m1] at ho'; cases ho'
    · exact (kx b hb2 hb1).elim
    · rfl)
  (fun j hi => by
    rcases hi with rfl | rfl | rfl | rfl
    · rw [s3 _ ne2 ne3]; exact h.hone _
    · rw [s3 _ ne4 ne5]; exact h.hone _
    · rw [s1]; exact r1
    · rw [s2]; rfl)
  (fun hk j hi => by
    rcases hi with rfl | rfl | rfl | rfl
    · rw [m2]
      refine ⟨.func 0, vs2.toArray, flat, fun k => k.2 ⟨by omega, by omega⟩, s2, by simp only [vs2, List.toList_toArray, List.length_set]; exact b3, by simp only [rx]; rw [s3 _ ne2 ne3]; exact b4, ?_⟩
      simp only [List.toList_toArray, holed, vs2, List.map_set, List.set_set]
      have hz : xs.zip ((vs.toList.map some).set i none) = (xs.zip (holed vs.toList none)).set i (xs[i], none) := by
       rw [← zip_set2, set_self hi]; rfl
      rw [hz, e1]
      exact roAll_set (by rw [List.length_zip, holed_len]; omega) (roAll_mono (elG_keep hk.k) _ _ e5) (elG_keep hk.k _ _ (elG_weak e4)) (roAll_mono (elG_keep hk.k) _ _ e6)
    · rw [m1]; trivial
    · rw [m4]
      refine ⟨_, fl0, rfl, by simp only [rx]; rw [s1]; exact r2, roAll_mono (ro_keep hk.k u) _ _ r3⟩
    · rw [m3]
      refine ⟨.func 0, vs2.toArray, s2, ?_⟩
      simp only [List.toList_toArray]
      refine ⟨by simp only [vs2, List.length_set]; exact c2.len, fun j ys q h1 h2 => ?_, fun j j2 q q2 b h1 h2 h3 h4 => ?_⟩
      · rcases hv2 j q h2 with ⟨hj, hq⟩ | ⟨hj, hq⟩
        · subst hj hq
          rw [List.getElem?_set, if_pos rfl, if_pos (by omega)] at h1
          simp only [Option.some.injEq] at h1
          subst h1
          exact ⟨rfl, [], rowR_none _ _ _ _, rfl⟩
        · rw [List.getElem?_set, if_neg (fun e => hj e.symm)] at h1
          obtain ⟨g1, fl, g2, g3⟩ := c2.row j ys q h1 hq
          exact ⟨g1, fl, g2, roAll_mono (ro_keep hk.k u) _ _ g3⟩
      · rcases hv2 j q h1 with ⟨hj, hq⟩ | ⟨hj, hq⟩
        · rw [hq] at h3; exact absurd h3 (nb b)
        · rcases hv2 j2 q2 h2 with ⟨hj2, hq2⟩ | ⟨hj2, hq2⟩
          · rw [hq2] at h4; exact absurd h4 (nb b)
          · exact c2.inj j j2 q q2 b hq hq2 h3 h4)
 refine ⟨σ', k1, k2, ?_, hq⟩
 unfold repA repC
 exact ⟨fun k => k.2 ⟨by omega, by omega⟩, s1.symm⟩
end
end Go.Ev
