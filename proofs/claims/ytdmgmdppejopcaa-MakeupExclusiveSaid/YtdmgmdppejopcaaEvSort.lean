/- The library's sorts, as contracts: a row is sorted in place. -/
import Derived.Test.YtdmgmdppejopcaaEvFun5
import Derived.Shelf.SortM.Plain
import Derived.Shelf.SortM.SortNone
import Derived.Shelf.SlSortCmp.WholeK
import Derived.Shelf.SlSortCmp.NoneTotal
set_option linter.unusedSimpArgs false
set_option linter.unusedVariables false
namespace Go.Ev
open Go.Sort (putCells putRow mapBlock onCells grow Holds)

section
variable {cx : Cx} {σ : Nat → Value} {N : Nat → Prop} {m : Mem} {w : World} {P : Program}

theorem putCells_list (F cur : Array Value) (h : F.size ≤ cur.size) : (putCells id 0 F cur).toList = F.toList ++ cur.toList.drop F.size := by
  apply List.ext_getElem
  · simp [putCells]; omega
  · intro k h1 h2
    have hk : k < cur.size := by simpa [putCells] using h1
    simp only [putCells, Array.getElem_toList, Array.getElem_mapIdx, List.getElem_append, Array.length_toList, List.getElem_drop, Nat.zero_le, true_and, Nat.zero_add, Nat.sub_zero, id]
    split
    · rename_i hlt
      exact getElem!_pos F k hlt
    · rename_i hlt
      congr 1; omega

theorem putRow_map {α : Type} [Inhabited α] (enc : α → Value) (w : World) (g : Nat) (d : Array α) : putRow enc w g 0 d = putRow id w g 0 (d.map enc) := by
  unfold putRow
  refine Go.Sort.mapBlock_congr _ _ _ _ fun c _ _ _ => ?_
  apply Array.ext
  · simp [putCells]
  · intro k h1 h2
    simp only [putCells, Array.getElem_mapIdx, Array.size_map, Nat.sub_zero, id]
    split
    · rename_i hlt
      rw [getElem!_pos d k (by omega), getElem!_pos (d.map enc) k (by simp; omega)]
      simp
    · rfl

/-- The world behind a sort. -/
structure Sorted (w w' : World) (g : Nat) (e : TypeId) (cur : Array Value) (F : Array Value) : Prop where
  os : w'.os = w.os
  tape : w'.tape = w.tape
  output : w'.output = w.output
  size : w.heap.size ≤ w'.heap.size
  drawn : w.drawn ≤ w'.drawn
  block : ∀ b, b < w.heap.size → b ≠ g → w'.heap[b]? = w.heap[b]?
  row : ∃ cur' : Array Value, w'.heap[g]? = some (.cells cur' e (0, 0)) ∧ cur'.toList = F.toList ++ cur.toList.drop F.size

theorem sorted_world {g : Nat} {e : TypeId} {cur F : Array Value} (hg : w.heap[g]? = some (.cells cur e (0, 0))) (hF : F.size ≤ cur.size) (n : Nat) (os : Array Obj) : Sorted w (grow (putRow id (Go.Sort.ahead w n) g 0 F) os) g e cur F := by
  have hlt : g < w.heap.size := (Array.getElem?_eq_some_iff.1 hg).1
  refine ⟨rfl, rfl, rfl, by simp, by simp [grow, putRow, mapBlock, Go.Sort.ahead], fun b hb hne => ?_, putCells id 0 F cur, ?_, putCells_list F cur hF⟩
  · rw [Go.Sort.heap_grow_old _ _ (by simpa using hb)]
    simp [putRow, mapBlock, Go.Sort.ahead, Array.getElem?_modify, Ne.symm hne]
  · rw [Go.Sort.heap_grow_old _ _ (by simpa using hlt)]
    simp [putRow, mapBlock, Go.Sort.ahead, Array.getElem?_modify, hg, onCells]

/-- The state behind a sort. -/
theorem row_sorted (h : RepM cx σ N m w) {id : Nat} (hn : ¬ N id) {e : TypeId} {t : Ty} {xs : List t.den} (hm : m id = .row e t xs) {g cap : Nat} {cur : Array Value} (hσ : σ id = .slice (some ⟨g, 0, none⟩) xs.length cap) (hc : 0 < cap)
    (hg : w.heap[g]? = some (.cells cur e (0, 0))) (hlc : xs.length ≤ cap) (hcm : cap ≤ maxLen) (hcs : cur.size = cap * t.n) {xs' : List t.den} (hl : xs'.length = xs.length) {F : Array Value} (hF : roAll (ro w (Owned cx σ m) t) xs' F.toList) {w' : World} (hw : Sorted w w' g e cur F) (fr : Nat) (p : Prop) {q : Prop} (hq : q) :
    Res cx σ N m w fr ⟨p, .tup [], [(id, .row e t xs')], q⟩ (.tuple #[]) w' := by
  have hFl := roAll_len (fun x c => ro_len t x c) _ _ hF
  rw [Array.length_toList] at hFl
  obtain ⟨cur', hg', hcur'⟩ := hw.row
  obtain ⟨g1, g2⟩ := h.step (σ' := σ) (N' := Nx N fr) (m' := upd m id (.row e t xs')) (w' := w') (fun i => i = id) (fun _ k => k.1)
    (fun i k => by
      by_cases hi : i = id
      · subst hi; exact absurd k.1 hn
      · rw [upd_ne _ _ hi]; exact h.fresh i k.1)
    (fun i k => ⟨upd_ne _ _ k, rfl⟩) (fun _ _ => rfl)
    (fun b hb hx => hw.block b hb (fun e' => hx id rfl (by rw [hm]; rfl) (by rw [hσ, e']; exact blkOf_slice hc))) ⟨hw.size, hw.drawn⟩ hw.os hw.tape hw.output
    (fun i b hi _ hb => .inr ⟨id, rfl, by rw [hm]; rfl, by rw [← hb, hi]⟩)
    (fun i i' b hi hi' _ _ _ _ => hi.trans hi'.symm) (fun i _ => h.hone i)
    (fun hk i hi => by
      subst hi
      rw [upd_same]
      have hfit : xs.length * t.n ≤ cap * t.n := Nat.mul_le_mul_right _ hlc
      refine ⟨xs'.length, F.toList, rfl, ?_, roAll_mono (ro_keep hk.k t) _ _ hF⟩
      simp only [rx]
      rw [hσ, ← hl]
      refine rowR_of (by rw [Array.length_toList, hFl]) hg' (by omega) hcm ?_ ?_
      · rw [← Array.length_toList, hcur']
        simp only [List.length_append, Array.length_toList, List.length_drop, hcs, hFl, hl]
        omega
      · rw [hcur', ← hFl, ← Array.length_toList]
        exact List.take_left)
  refine ⟨σ, g1, g2, ?_, hq⟩
  unfold repA
  exact ⟨[], rfl, by unfold repAs; rfl⟩

def sortI (xs : List Int) : List Int := xs.mergeSort fun x y => decide (x ≤ y)

theorem ro_ints {O : Nat → Prop} {k : IntKind} : ∀ (xs : List Int) (flat : List Value), roAll (ro w O (.int k)) xs flat → flat = xs.map (Value.int k) ∧ ∀ x ∈ xs, InR k x
  | [], flat, h => ⟨h, by simp⟩
  | x :: xs, _, ⟨c, d, e, h, hr⟩ => by
    obtain ⟨h1, h2⟩ := ro_ints xs d hr
    obtain ⟨g1, g2⟩ := h
    refine ⟨by rw [e, g1, h1]; rfl, fun y hy => ?_⟩
    rcases List.mem_cons.1 hy with rfl | hy
    · exact g2
    · exact h2 y hy
theorem ints_ro {O : Nat → Prop} {k : IntKind} : ∀ (xs : List Int), (∀ x ∈ xs, InR k x) → roAll (ro w O (.int k)) xs (xs.map (Value.int k))
  | [], _ => rfl
  | x :: xs, h => ⟨[.int k x], _, rfl, ⟨rfl, h x List.mem_cons_self⟩, ints_ro xs fun y hy => h y (List.mem_cons_of_mem _ hy)⟩

/-- slices.Sort at ints. -/
def sortCon (e : TypeId) : Con := { ps := [.o e (.int .i64)], rs := [], pre := fun x => x.1.length < 4611686018427387904, out := fun _ => (), nw := fun x => (sortI x.1, ()) }
theorem sort_int {ρ : Go.Shelf.Ren} (L : Go.Proofs.SlLaysM.n5 P ρ) (e : TypeId) : CtrOk P (ρ.f 5) (sortCon e).ctr := by
  intro cx σ N m w fr avs vs h hfr hreps hp
  unfold Con.ctr Con.effO at hp ⊢
  cases hrd : rds m (sortCon e).ps avs with
  | none => rw [hrd] at hp; exact hp.elim
  | some x =>
    rw [hrd] at hp
    simp only at hp ⊢
    split at hp
    · rename_i hid
      rw [if_pos hid]
      obtain ⟨xs, u⟩ := x
      cases u
      match avs, hrd, hreps, hid with
      | [v], hrd, hreps, hid =>
        simp only [sortCon, rds] at hrd
        obtain ⟨h1, _⟩ := implP_some hrd
        obtain ⟨id, rfl, h2⟩ := rd_o h1
        have hm := rdRow_some h2
        unfold repAs at hreps
        obtain ⟨v0, r, rfl, h3, h4⟩ := hreps
        unfold repAs at h4
        subst h4
        unfold repA repC at h3
        obtain ⟨hn, rfl⟩ := h3
        simp only [rx] at hn ⊢
        have hsz : xs.length < 4611686018427387904 := hp
        have goal_eff : ∀ (w' : World), Res cx σ N m w fr ⟨xs.length < 4611686018427387904, .tup [], [(id, .row e (.int .i64) (sortI xs))], True⟩ (.tuple #[]) w' →
            ∃ v, Ending.returned (.tuple #[]) = .returned v ∧ Res cx σ N m w fr ((sortCon e).eff [.one (.row id)] m fr (xs, ())) v w' := fun w' hr => ⟨_, rfl, hr⟩
        have hb := h.blk id
        rw [hm] at hb
        obtain ⟨n', flat, rfl, k1, k2⟩ := hb
        simp only [rx] at k1 k2
        obtain ⟨hfl, hin⟩ := ro_ints xs flat k2
        rcases k1.2 with ⟨e2, a0, e1⟩ | ⟨g, cap, cur, hc, e1, hg, hlc, hcm, hcs, htk⟩
        · have hx : xs = [] := List.eq_nil_of_length_eq_zero e2
          subst hx
          rw [e1]
          refine (Go.Proofs.AnyM.slices_Sort_int_none L a0 0 w).mono ?_
          rintro e' w' ⟨rfl, rfl⟩
          refine goal_eff _ ?_
          have hs : sortI [] = [] := by simp [sortI]
          rw [hs]
          obtain ⟨g1, g2⟩ := h.weaken (N' := Nx N fr) (fun _ k => k.1)
          have hmm : updM m [(id, Blk.row e (.int .i64) [])] = m := same_row hm
          refine ⟨σ, ?_, ?_, ?_, trivial⟩ <;> simp only [hmm]
          · exact g1
          · exact g2
          · unfold repA; exact ⟨[], rfl, by unfold repAs; rfl⟩
        · have hcz : flat.length = xs.length * 1 := k1.1
          have hH : Holds (Value.int .i64) w g 0 xs.toArray := by
            intro j hj
            have hj' : j < xs.length := by simpa using hj
            rw [Nat.zero_add]
            refine ⟨?_, by simp [World.frozen?, hg]⟩
            refine rowR_cells k1 (g := g) (by rw [e1]; exact blkOf_slice hc) j _ ?_
            rw [hfl, List.getElem?_map, List.getElem?_eq_getElem hj', getElem!_pos xs.toArray j hj]
            rfl
          have hlt : g < w.heap.size := (Array.getElem?_eq_some_iff.1 hg).1
          rw [e1]
          refine (Go.Proofs.AnyM.slices_Sort_int L g 0 cap xs w hH hlt hsz).mono ?_
          rintro e' w' ⟨rfl, n, os, rfl⟩
          refine goal_eff _ ?_
          rw [putRow_map]
          have hl : (sortI xs).length = xs.length := List.length_mergeSort xs
          refine row_sorted h hn hm e1 hc hg hlc hcm hcs hl ?_ (sorted_world hg ?_ n os) fr _ trivial
          · have : ((sortI xs).toArray.map (Value.int .i64)).toList = (sortI xs).map (Value.int .i64) := by simp
            rw [show (List.mergeSort xs fun x y => decide (x ≤ y)) = sortI xs from rfl, this]
            exact ints_ro _ fun x hx => hin x ((List.mergeSort_perm xs _).mem_iff.1 hx)
          · have h9 : cap * 1 = cur.size := hcs.symm
            simp only [List.map_toArray, List.size_toArray, List.length_map, List.length_mergeSort]
            omega
      | [], hrd, _, _ => simp [sortCon, rds] at hrd
      | _ :: _ :: _, hrd, _, _ => 
        simp only [sortCon, rds] at hrd
        obtain ⟨_, h2⟩ := implP_some hrd
        cases h2
    · exact hp.elim

end
end Go.Ev
