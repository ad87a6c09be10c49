/- Soundness of the operations: structs built, compared; slices built. -/
import Derived.Test.YtdmgmdppejopcaaEvOps6
set_option linter.unusedSimpArgs false
set_option linter.unusedVariables false
namespace Go.Ev

section
variable {cx : Cx} {σ : Nat → Value} {N : Nat → Prop} {m : Mem} {w : World} {P : Program} {T : Tab} {G : Env} {o : Oper} {fr : Nat} {ρ : Operand → Value} {av : Operand → AV}

/-! ### filling -/

theorem fold_set : ∀ (vs : List Value) (k : Nat) (cells : List Value) (off : Nat), off + k + vs.length ≤ cells.length →
    (vs.zipIdx k).foldl (fun (cs : Array Value) (p : Value × Nat) => cs.setIfInBounds (off + p.2) p.1) cells.toArray = (cells.take (off + k) ++ vs ++ cells.drop (off + k + vs.length)).toArray
  | [], k, cells, off, h => by simp
  | v :: vs, k, cells, off, h => by
    simp only [List.zipIdx_cons, List.foldl_cons]
    have hlt : off + k < cells.length := by simp at h; omega
    have e : cells.toArray.setIfInBounds (off + k) v = (cells.set (off + k) v).toArray := by simp
    rw [e, fold_set vs (k + 1) (cells.set (off + k) v) off (by simp at h ⊢; omega)]
    congr 1
    have h1 : (cells.set (off + k) v).take (off + (k + 1)) = cells.take (off + k) ++ [v] := by
      rw [← Nat.add_assoc, List.take_succ_eq_append_getElem (by simp; omega), List.take_set_of_le (by omega)]
      simp
    have h2 : (cells.set (off + k) v).drop (off + (k + 1) + vs.length) = cells.drop (off + k + (v :: vs).length) := by
      rw [List.drop_set_of_lt (by omega)]
      congr 1
      simp; omega
    rw [h1, h2]
    simp

theorem fill_step (place : Nat → Option (Nat × Nat)) (cells : List Value) (i : Nat) (v : Value) (rest : List (Nat × Value)) {off sz : Nat} (hp : place i = some (off, sz)) (hs : v.cells.size = sz) (hle : off + sz ≤ cells.length) :
    Instr.fill place cells.toArray ((i, v) :: rest) = Instr.fill place (cells.take off ++ v.cells.toList ++ cells.drop (off + v.cells.toList.length)).toArray rest := by
  have hf := fold_set v.cells.toList 0 cells off (by simp; omega)
  simp only [Nat.add_zero] at hf
  have hz : v.cells.zipIdx.foldl (fun (cs : Array Value) (p : Value × Nat) => cs.setIfInBounds (off + p.2) p.1) cells.toArray = (cells.take off ++ v.cells.toList ++ cells.drop (off + v.cells.toList.length)).toArray := by
    rw [← hf, ← Array.foldl_toList, Array.toList_zipIdx]
  rw [Instr.fill]
  simp only [hp]
  rw [if_neg (by simp; omega)]
  congr 1

/-- Parts laid into a struct's cells. -/
theorem fillC_rep (hσ : ∀ id, (σ id).oneCell' = true) {fs : List (Nat × Nat × Bool)} {place : Nat → Option (Nat × Nat)} (hpl : ∀ i off sz ag, fs[i]? = some (off, sz, ag) → place i = some (off, sz)) :
    ∀ (parts : List (Nat × AV)) (pv : List (Nat × Value)) (cs cs' : List C1) (vs : List Value), fillC fs cs parts = some cs' → repCs (rx cx σ N m w) cs vs → oneAll vs →
      pv.length = parts.length → (∀ (k : Nat) (p : Nat × AV) (q : Nat × Value), parts[k]? = some p → pv[k]? = some q → q.1 = p.1 ∧ repA (rx cx σ N m w) p.2 q.2) →
      ∃ vs', Instr.fill place vs.toArray pv = some vs'.toArray ∧ repCs (rx cx σ N m w) cs' vs' ∧ oneAll vs'
  | [], pv, cs, cs', vs, hf, hr, h1, hl, _ => by
    have : pv = [] := List.eq_nil_of_length_eq_zero hl
    subst this
    simp [fillC] at hf; subst hf
    exact ⟨vs, rfl, hr, h1⟩
  | (i, a) :: parts, [], _, _, _, _, _, _, hl, _ => by simp at hl
  | (i, a) :: parts, (i', v) :: pv, cs, cs', vs, hf, hr, h1, hl, hall => by
    obtain ⟨e, ha⟩ := hall 0 (i, a) (i', v) rfl rfl
    simp at e; subst e
    rw [fillC] at hf
    split at hf
    · rename_i off sz ag hfs
      split at hf
      · rename_i hc
        obtain ⟨c1, c2, c3, c4⟩ := hc
        have c1 : a.cells.length = sz := c1
        have ha : repA (rx cx σ N m w) a v := ha
        have c4 : a.cells.all known = true := c4
        have hne : a.cells ≠ [] := fun e => by rw [e] at c1; simp at c1; omega
        have hac := cells_of (x := rx cx σ N m w) hσ ha c4 hne
        have hal := repCs_len _ _ hac
        have hvl := repCs_len _ _ hr
        have h1a := known_all (x := rx cx σ N m w) hσ _ _ c4 hac
        rw [fill_step place vs i' v pv (hpl i' off sz ag hfs) (by rw [← Array.length_toList]; omega) (by omega)]
        refine fillC_rep hσ hpl parts pv _ cs' _ hf (repCs_over hr hac) (fun u hu => ?_) (by simpa using hl) (fun k p q hp hq => hall (k + 1) p q (by simpa using hp) (by simpa using hq))
        simp only [List.mem_append] at hu
        rcases hu with (hu | hu) | hu
        · exact h1 u (List.mem_of_mem_take hu)
        · exact h1a u hu
        · exact h1 u (List.mem_of_mem_drop hu)
      · cases hf
    · cases hf

theorem s_build (h : RepM cx σ N m w) (hfr : ∀ id, fr ≤ id → id < fr + 32 → N id) {t : TypeId} {parts : Array (Nat × Operand)} (ho : o.op = .build t parts) (ht : TabOK P T)
    (hx : ∀ x ∈ opsOf o.op, repA (rx cx σ N m w) (av x) (ρ x)) (hp : (opEff T G o ((opsOf o.op).map av) m fr).pre) : Runs P w (Res cx σ N m w fr (opEff T G o ((opsOf o.op).map av) m fr)) ((execOp ρ o).run P w) := by
  rw [ho] at hx hp ⊢
  simp only [opEff, ho, opsOf] at hx hp ⊢
  split at hp
  · rename_i fs hd
    split at hp
    · exact hp.elim
    · rename_i hz
      rw [if_neg hz]
      simp only [not_or] at hz
      split at hp
      · rename_i cs hf
        have htt := TI.of_ok ht t (fun e => by rw [e] at hd; cases hd)
        obtain ⟨i, hi, hs, hby, z, hzz, hzs, hzc⟩ := htt.info
        obtain ⟨flds, hu, hfs, hall, hone⟩ := htt.struct fs hd
        obtain ⟨σ', N', h1, h2, h3, h4, h5⟩ := mkZero_rep (TI.of T t).zero fr z.cells.toList σ N m h (fun j hj => hfr _ (by omega) (by omega)) (hzc hz.1)
        -- the places
        have hplaces : flds.toList.mapM (fun f => (P.info? f.type).map fun i => (f.offset, i.size)) = some (flds.toList.map fun f => (f.offset, sizeB P f.type)) := by
          have : ∀ l : List Field, (∀ f ∈ l, f ∈ flds) → l.mapM (fun f => (P.info? f.type).map fun i => (f.offset, i.size)) = some (l.map fun f => (f.offset, sizeB P f.type)) := by
            intro l
            induction l with
            | nil => intro _; rfl
            | cons f l ih =>
              intro hl
              obtain ⟨i, d, hi, _⟩ := hall f (hl f List.mem_cons_self)
              simp only [List.mapM_cons, hi, Option.map_some, ih (fun g hg => hl g (List.mem_cons_of_mem _ hg)), List.map_cons]
              simp [sizeB, hi]
          exact this _ (fun f hf => by simpa using hf)
        obtain ⟨vs', hfill, hcs', h1'⟩ := fillC_rep (cx := cx) (σ := σ') (N := N') (m := updM m (mkZero (TI.of T t).zero fr).2) (w := w) h1.hone (fs := fs) (place := ((flds.toList.map fun f => (f.offset, sizeB P f.type)).toArray[·]?)) (fun k off sz ag hk => by
            rw [hfs, List.getElem?_map] at hk
            cases hq : flds.toList[k]? with
            | none => rw [hq] at hk; cases hk
            | some f =>
              rw [hq] at hk; simp at hk
              simp only [List.getElem?_toArray, List.getElem?_map, hq, Option.map_some]
              rw [hk.1, hk.2.1])
          _ (parts.toList.map fun p => (p.1, ρ p.2)) _ cs _ hf h3 h4 (by simp) (fun k p q hpk hqk => by
            rw [List.getElem?_map] at hqk
            cases hq : parts.toList[k]? with
            | none => rw [hq] at hqk; cases hqk
            | some pp =>
              rw [hq] at hqk; simp at hqk; subst hqk
              have : ((parts.toList.map (·.1)).zip (parts.toList.map fun p => av p.2))[k]? = some (pp.1, av pp.2) := by
                simp [List.getElem?_zip_eq_some, hq]
              simp only [List.map_map] at hpk
              rw [show ((fun x => x.fst) : Nat × Operand → Nat) = (·.1) from rfl] at hpk
              have hpk' : p = (pp.1, av pp.2) := by
                have e2 : (List.map (av ∘ fun x => x.snd) parts.toList) = parts.toList.map fun p => av p.2 := rfl
                rw [e2, this] at hpk
                exact (Option.some.inj hpk).symm
              subst hpk'
              refine ⟨rfl, repA_keep h2 _ _ (hx pp.2 ?_)⟩
              exact List.mem_map.2 ⟨pp, List.mem_of_getElem? hq, rfl⟩)
        have hb : P.built t (parts.toList.map fun p => (p.1, ρ p.2)) = some vs'.toArray := by
          unfold Program.built
          rw [hi, hu]
          simp only [hzz, hplaces]
          rw [← Array.toArray_toList (xs := z.cells)]
          exact hfill
        have hrun : (execOp ρ o).run P w = .ok (.value (.agg vs'.toArray)) w := by
          have := run_build (P := P) w t (parts.map fun p => (p.1, ρ p.2)) vs'.toArray (by simpa using hb)
          simp only [execOp, ho]
          simp [this]
        have hN : ∀ id, Nx N fr id → N' id := fun id hid => h5 id hid.1 (by have := hid.2; omega)
        obtain ⟨g1, g2⟩ := h1.weaken hN
        refine runs_value hrun ⟨σ', g1, ⟨h2.k.trans g2.k (Nat.le_refl _), fun id hid => (g2.σ id (fun k => hid (h2.N id k))).trans (h2.σ id hid), fun id hid => hid.1⟩, ?_, trivial⟩
        unfold repA
        exact ⟨vs', rfl, repCs_keep g2 _ _ hcs'⟩
      · exact hp.elim
  · exact hp.elim

end
end Go.Ev
