/- The library's sorts, as contracts: a row is sorted in place. -/
import Derived.Test.YthiddcobegnokaaEvFun5
import Derived.Shelf.SortM.Plain
import Derived.Shelf.SortM.SortNone
import Derived.Shelf.SlSortCmp.WholeK
import Derived.Shelf.SlSortCmp.NoneTotal
import Derived.Test.YthiddcobegnokaaEvSimp
import Derived.Test.YthiddcobegnokaaMgA
import Derived.Test.YthiddcobegnokaaMgLay
set_option linter.unusedSimpArgs false
set_option linter.unusedVariables false
namespace Go.Ev
open Go.Sort (putCells putRow mapBlock onCells grow Holds)

section
variable {cx : Cx} {σ : Nat → Value} {N : Nat → Prop} {m : Mem} {w : World} {P : Program}

theorem putCells_list (F cur : Array Value) (h : F.size ≤ cur.size) : (putCells id 0 F cur).toList = F.toList ++ cur.toList.drop F.size := by
  apply List.ext_getElem
  · simp [putCells]; omega
  · intro k h1 h2
    have hk : k < cur.size := by simpa [putCells] using h1
    simp only [putCells, Array.getElem_toList, Array.getElem_mapIdx, List.getElem_append, Array.length_toList, List.getElem_drop, Nat.zero_le, true_and, Nat.zero_add, Nat.sub_zero, id]
    split
    · rename_i hlt
      exact getElem!_pos F k hlt
    · rename_i hlt
      congr 1; omega

theorem putRow_map {α : Type} [Inhabited α] (enc : α → Value) (w : World) (g : Nat) (d : Array α) : putRow enc w g 0 d = putRow id w g 0 (d.map enc) := by
  unfold putRow
  refine Go.Sort.mapBlock_congr _ _ _ _ fun c _ _ _ => ?_
  apply Array.ext
  · simp [putCells]
  · intro k h1 h2
    simp only [putCells, Array.getElem_mapIdx, Array.size_map, Nat.sub_zero, id]
    split
    · rename_i hlt
      rw [getElem!_pos d k (by omega), getElem!_pos (d.map enc) k (by simp; omega)]
      simp
    · rfl

/-- The world behind a sort. -/
structure Sorted (w w' : World) (g : Nat) (e : TypeId) (cur : Array Value) (F : Array Value) : Prop where
  os : w'.os = w.os
  tape : w'.tape = w.tape
  output : w'.output = w.output
  size : w.heap.size ≤ w'.heap.size
  drawn : w.drawn ≤ w'.drawn
  block : ∀ b, b < w.heap.size → b ≠ g → w'.heap[b]? = w.heap[b]?
  row : ∃ cur' : Array Value, w'.heap[g]? = some (.cells cur' e (0, 0)) ∧ cur'.toList = F.toList ++ cur.toList.drop F.size

theorem sorted_world {g : Nat} {e : TypeId} {cur F : Array Value} (hg : w.heap[g]? = some (.cells cur e (0, 0))) (hF : F.size ≤ cur.size) (n : Nat) (os : Array Obj) : Sorted w (grow (putRow id (Go.Sort.ahead w n) g 0 F) os) g e cur F := by
  have hlt : g < w.heap.size := (Array.getElem?_eq_some_iff.1 hg).1
  refine ⟨rfl, rfl, rfl, by simp, by simp [grow, putRow, mapBlock, Go.Sort.ahead], fun b hb hne => ?_, putCells id 0 F cur, ?_, putCells_list F cur hF⟩
  · rw [Go.Sort.heap_grow_old _ _ (by simpa using hb)]
    simp [putRow, mapBlock, Go.Sort.ahead, Array.getElem?_modify, Ne.symm hne]
  · rw [Go.Sort.heap_grow_old _ _ (by simpa using hlt)]
    simp [putRow, mapBlock, Go.Sort.ahead, Array.getElem?_modify, hg, onCells]

/-- The state behind a sort. -/
theorem row_sorted (h : RepM cx σ N m w) {id : Nat} (hn : ¬ N id) {e : TypeId} {t : Ty} {xs : List t.den} (hm : m id = .row e t xs) {g cap : Nat} {cur : Array Value} (hσ : σ id = .slice (some ⟨g, 0, none⟩) xs.length cap) (hc : 0 < cap)
    (hg : w.heap[g]? = some (.cells cur e (0, 0))) (hlc : xs.length ≤ cap) (hcm : cap ≤ maxLen) (hcs : cur.size = cap * t.n) {xs' : List t.den} (hl : xs'.length = xs.length) {F : Array Value} (hF : roAll (ro w (Owned cx σ m) t) xs' F.toList) {w' : World} (hw : Sorted w w' g e cur F) (fr : Nat) (p : Prop) {q : Prop} (hq : q) :
    Res cx σ N m w fr ⟨p, .tup [], [(id, .row e t xs')], q⟩ (.tuple #[]) w' := by
  have hFl := roAll_len (fun x c => ro_len t x c) _ _ hF
  rw [Array.length_toList] at hFl
  obtain ⟨cur', hg', hcur'⟩ := hw.row
  obtain ⟨g1, g2⟩ := h.step (σ' := σ) (N' := Nx N fr) (m' := upd m id (.row e t xs')) (w' := w') (fun i => i = id) (fun _ k => k.1)
    (fun i k => by
      by_cases hi : i = id
      · subst hi; exact absurd k.1 hn
      · rw [upd_ne _ _ hi]; exact h.fresh i k.1)
    (fun i k => ⟨upd_ne _ _ k, rfl⟩) (fun _ _ => rfl)
    (fun b hb hx => hw.block b hb (fun e' => hx id rfl (by rw [hm]; rfl) (by rw [hσ, e']; exact .inl (blkOf_slice hc)))) ⟨hw.size, hw.drawn⟩ hw.os hw.tape hw.output
    (fun i b hi _ hb => .inr ⟨id, rfl, by rw [hm]; rfl, by rw [← hi]; exact hb⟩)
    (fun i i' b hi hi' _ _ _ _ => hi.trans hi'.symm) (fun i _ => h.hone i)
    (fun hk i hi => by
      subst hi
      rw [upd_same]
      have hfit : xs.length * t.n ≤ cap * t.n := Nat.mul_le_mul_right _ hlc
      refine ⟨xs'.length, F.toList, rfl, ?_, roAll_mono (ro_keep hk.k t) _ _ hF⟩
      simp only [rx]
      rw [hσ, ← hl]
      refine rowR_of (by rw [Array.length_toList, hFl]) hg' (by omega) hcm ?_ ?_
      · rw [← Array.length_toList, hcur']
        simp only [List.length_append, Array.length_toList, List.length_drop, hcs, hFl, hl]
        omega
      · rw [hcur', ← hFl, ← Array.length_toList]
        exact List.take_left)
  refine ⟨σ, g1, g2, ?_, hq⟩
  unfold repA
  exact ⟨[], rfl, by unfold repAs; rfl⟩

def sortI (xs : List Int) : List Int := xs.mergeSort fun x y => decide (x ≤ y)

theorem ro_ints {O : Nat → Prop} {k : IntKind} : ∀ (xs : List Int) (flat : List Value), roAll (ro w O (.int k)) xs flat → flat = xs.map (Value.int k) ∧ ∀ x ∈ xs, InR k x
  | [], flat, h => ⟨h, by simp⟩
  | x :: xs, _, ⟨c, d, e, h, hr⟩ => by
    obtain ⟨h1, h2⟩ := ro_ints xs d hr
    obtain ⟨g1, g2⟩ := h
    refine ⟨by rw [e, g1, h1]; rfl, fun y hy => ?_⟩
    rcases List.mem_cons.1 hy with rfl | hy
    · exact g2
    · exact h2 y hy
theorem ints_ro {O : Nat → Prop} {k : IntKind} : ∀ (xs : List Int), (∀ x ∈ xs, InR k x) → roAll (ro w O (.int k)) xs (xs.map (Value.int k))
  | [], _ => rfl
  | x :: xs, h => ⟨[.int k x], _, rfl, ⟨rfl, h x List.mem_cons_self⟩, ints_ro xs fun y hy => h y (List.mem_cons_of_mem _ hy)⟩

/-- slices.Sort at ints. -/
def sortCon (e : TypeId) : Con := { ps := [.o e (.int .i64)], rs := [], pre := fun x => x.1.length < 4611686018427387904, out := fun _ => (), nw := fun x => (sortI x.1, ()) }
theorem sort_int {ρ : Go.Shelf.Ren} (L : Go.Proofs.SlLaysM.n5 P ρ) (e : TypeId) : CtrOk P (ρ.f 5) (sortCon e).ctr := by
  intro cx σ N m w fr avs vs h hfr hreps hp
  unfold Con.ctr Con.effO at hp ⊢
  cases hrd : rds m (sortCon e).ps avs with
  | none => rw [hrd] at hp; exact hp.elim
  | some x =>
    rw [hrd] at hp
    simp only at hp ⊢
    split at hp
    · rename_i hid
      rw [if_pos hid]
      obtain ⟨xs, u⟩ := x
      cases u
      match avs, hrd, hreps, hid with
      | [v], hrd, hreps, hid =>
        simp only [sortCon, rds] at hrd
        obtain ⟨h1, _⟩ := implP_some hrd
        obtain ⟨id, rfl, h2⟩ := rd_o h1
        have hm := rdRow_some h2
        unfold repAs at hreps
        obtain ⟨v0, r, rfl, h3, h4⟩ := hreps
        unfold repAs at h4
        subst h4
        unfold repA repC at h3
        obtain ⟨hn, rfl⟩ := h3
        simp only [rx] at hn ⊢
        have hsz : xs.length < 4611686018427387904 := hp
        have goal_eff : ∀ (w' : World), Res cx σ N m w fr ⟨xs.length < 4611686018427387904, .tup [], [(id, .row e (.int .i64) (sortI xs))], True⟩ (.tuple #[]) w' →
            ∃ v, Ending.returned (.tuple #[]) = .returned v ∧ Res cx σ N m w fr ((sortCon e).eff [.one (.row id)] m fr (xs, ())) v w' := fun w' hr => ⟨_, rfl, hr⟩
        have hb := h.blk id
        rw [hm] at hb
        obtain ⟨n', flat, rfl, k1, k2⟩ := hb
        simp only [rx] at k1 k2
        obtain ⟨hfl, hin⟩ := ro_ints xs flat k2
        rcases k1.2 with ⟨e2, a0, e1⟩ | ⟨g, cap, cur, hc, e1, hg, hlc, hcm, hcs, htk⟩
        · have hx : xs = [] := List.eq_nil_of_length_eq_zero e2
          subst hx
          rw [e1]
          refine (Go.Proofs.AnyM.slices_Sort_int_none L a0 0 w).mono ?_
          rintro e' w' ⟨rfl, rfl⟩
          refine goal_eff _ ?_
          have hs : sortI [] = [] := by simp [sortI]
          rw [hs]
          obtain ⟨g1, g2⟩ := h.weaken (N' := Nx N fr) (fun _ k => k.1)
          have hmm : updM m [(id, Blk.row e (.int .i64) [])] = m := same_row hm
          refine ⟨σ, ?_, ?_, ?_, trivial⟩ <;> simp only [hmm]
          · exact g1
          · exact g2
          · unfold repA; exact ⟨[], rfl, by unfold repAs; rfl⟩
        · have hcz : flat.length = xs.length * 1 := k1.1
          have hH : Holds (Value.int .i64) w g 0 xs.toArray := by
            intro j hj
            have hj' : j < xs.length := by simpa using hj
            rw [Nat.zero_add]
            refine ⟨?_, by simp [World.frozen?, hg]⟩
            refine rowR_cells k1 (g := g) (by rw [e1]; exact blkOf_slice hc) j _ ?_
            rw [hfl, List.getElem?_map, List.getElem?_eq_getElem hj', getElem!_pos xs.toArray j hj]
            rfl
          have hlt : g < w.heap.size := (Array.getElem?_eq_some_iff.1 hg).1
          rw [e1]
          refine (Go.Proofs.AnyM.slices_Sort_int L g 0 cap xs w hH hlt hsz).mono ?_
          rintro e' w' ⟨rfl, n, os, rfl⟩
          refine goal_eff _ ?_
          rw [putRow_map]
          have hl : (sortI xs).length = xs.length := List.length_mergeSort xs
          refine row_sorted h hn hm e1 hc hg hlc hcm hcs hl ?_ (sorted_world hg ?_ n os) fr _ trivial
          · have : ((sortI xs).toArray.map (Value.int .i64)).toList = (sortI xs).map (Value.int .i64) := by simp
            rw [show (List.mergeSort xs fun x y => decide (x ≤ y)) = sortI xs from rfl, this]
            exact ints_ro _ fun x hx => hin x ((List.mergeSort_perm xs _).mem_iff.1 hx)
          · have h9 : cap * 1 = cur.size := hcs.symm
            simp only [List.map_toArray, List.size_toArray, List.length_map, List.length_mergeSort]
            omega
      | [], hrd, _, _ => simp [sortCon, rds] at hrd
      | _ :: _ :: _, hrd, _, _ => 
        simp only [sortCon, rds] at hrd
        obtain ⟨_, h2⟩ := implP_some hrd
        cases h2
    · exact hp.elim

end
end Go.Ev

/- The library's sort by a function, as a contract: the row is permuted, and no later element is less than an earlier one. -/
set_option linter.unusedSimpArgs false
set_option linter.unusedVariables false
namespace Go.Ev
open Go.Sort (putCells putRow mapBlock onCells grow Holds flatK HoldsK putRowK SWO PermIn SortedIn)
open Go.Proofs (CmpLays ltOf sortWorldK)

section
variable {cx : Cx} {σ : Nat → Value} {N : Nat → Prop} {m : Mem} {w : World} {P : Program}

/-- An element with its cells. -/
abbrev El (w : World) (O : Nat → Prop) (t : Ty) := { p : t.den × List Value // ro w O t p.1 p.2 }
def El.enc {O : Nat → Prop} {t : Ty} (p : El w O t) : List Value := p.1.2

theorem roAll_els {O : Nat → Prop} {t : Ty} : ∀ (xs : List t.den) (flat : List Value), roAll (ro w O t) xs flat → ∃ d : List (El w O t), d.map (fun p => p.1.1) = xs ∧ d.flatMap El.enc = flat
  | [], flat, h => ⟨[], rfl, by rw [show flat = [] from h]; rfl⟩
  | x :: xs, _, ⟨c, r, e, h, hr⟩ => by
    obtain ⟨d, h1, h2⟩ := roAll_els xs r hr
    exact ⟨⟨(x, c), h⟩ :: d, by simp [h1], by rw [e, List.flatMap_cons, h2]; rfl⟩
theorem els_roAll {O : Nat → Prop} {t : Ty} : ∀ (d : List (El w O t)), roAll (ro w O t) (d.map (fun p => p.1.1)) (d.flatMap El.enc)
  | [] => rfl
  | p :: d => ⟨p.1.2, _, rfl, p.2, els_roAll d⟩

theorem flatMap_get {α : Type} (enc : α → List Value) (k : Nat) (hk0 : 0 < k) (hk : ∀ x, (enc x).length = k) : ∀ (d : List α) (t : Nat), (d.flatMap enc)[t]? = (d[t / k]?).bind (fun x => (enc x)[t % k]?)
  | [], t => by simp
  | x :: d, t => by
    rw [List.flatMap_cons]
    by_cases h : t < k
    · rw [List.getElem?_append_left (by rw [hk]; exact h), Nat.div_eq_of_lt h, Nat.mod_eq_of_lt h]
      rfl
    · obtain ⟨s, rfl⟩ : ∃ s, t = s + k := ⟨t - k, by omega⟩
      rw [List.getElem?_append_right (by rw [hk]; omega), hk, Nat.add_sub_cancel, flatMap_get enc k hk0 hk d s, Nat.add_div_right _ hk0, Nat.add_mod_right]
      rfl

theorem flatK_list {α : Type} [Inhabited α] (enc : α → List Value) (k : Nat) (hk0 : 0 < k) (hk : ∀ x, (enc x).length = k) (d : Array α) : (flatK enc k d).toList = d.toList.flatMap enc := by
  apply List.ext_getElem?
  intro t
  rw [flatMap_get enc k hk0 hk]
  by_cases h : t < d.size * k
  · have h1 : t / k < d.size := Nat.div_lt_of_lt_mul (by rw [Nat.mul_comm]; exact h)
    have h2 : t % k < k := Nat.mod_lt _ hk0
    have h3 : t < (flatK enc k d).toList.length := by simpa using h
    rw [List.getElem?_eq_getElem h3, Array.getElem_toList, ← getElem!_pos (flatK enc k d) t (by simpa using h), Go.Sort.get_flatK _ _ _ _ h]
    rw [List.getElem?_eq_getElem (by simpa using h1), Option.bind_some, Array.getElem_toList, getElem!_pos d _ h1, List.getElem?_eq_getElem (by rw [hk]; exact h2), getElem!_pos _ _ (by rw [hk]; exact h2)]
  · rw [List.getElem?_eq_none (by simp; omega)]
    have : d.size ≤ t / k := (Nat.le_div_iff_mul_le hk0).2 (by omega)
    rw [List.getElem?_eq_none (by simpa using this)]
    rfl

theorem callFunc_enter {g : FuncId} (h : FnHas P g) (args : Array Value) (w : World) : (callFunc g args).run P w = .ok (.enter g args) w := by
  obtain ⟨fn, hfn, hname, hbody⟩ := h
  have hname' : fn.name ≠ "runtime.NumGoroutine" := by simpa using hname
  have hbody' : fn.body ≠ none := by intro hh; rw [hh] at hbody; cases hbody
  simp [callFunc, hfn, hname', hbody']

/-- A world that has only grown. -/
theorem grown_eq {W w' : World} (h1 : w'.os = W.os) (h2 : w'.tape = W.tape) (h3 : w'.output = W.output) (h4 : W.drawn ≤ w'.drawn) (h5 : W.heap.size ≤ w'.heap.size) (h6 : ∀ b, b < W.heap.size → w'.heap[b]? = W.heap[b]?) : ∃ q os', w' = grow (W.drewN q) os' := by
  refine ⟨w'.drawn - W.drawn, w'.heap.extract W.heap.size w'.heap.size, ?_⟩
  have e1 : w'.heap = W.heap ++ w'.heap.extract W.heap.size w'.heap.size := by
    apply Array.ext_getElem?
    intro i
    by_cases hi : i < W.heap.size
    · rw [Array.getElem?_append_left hi]; exact h6 i hi
    · rw [Array.getElem?_append_right (by omega), Array.getElem?_extract]
      by_cases hi2 : i < w'.heap.size
      · rw [if_pos (by omega)]; congr 1; omega
      · rw [if_neg (by omega), Array.getElem?_eq_none (by omega)]
  have e2 : w'.drawn = W.drawn + (w'.drawn - W.drawn) := by omega
  obtain ⟨a, b, c, d, e⟩ := W
  obtain ⟨a', b', c', d', e'⟩ := w'
  simp only at h1 h2 h3 e1 e2
  subst h1 h2 h3
  simp only [grow, World.drewN, ← e1, ← e2]

/-- A comparison of two elements. -/
def cmpCon (t : Ty) (c : t.den → t.den → Int) : Con := { ps := [.d true t, .d true t], rs := [.d false (.int .i64)], pre := fun _ => True, out := fun x => (c x.1 x.2.1, ()), nw := id }

theorem impl_self (m : Mem) : ∀ (t : Ty) (y : t.den), impl m t (expl t y) = some y
  | .int k, n => by simp [impl, expl, implI]
  | .bool, b => rfl
  | .str, s => rfl
  | .unit, _ => rfl
  | .sl t, xs => by simp [impl, expl, implL, view, castTy]
  | .pair a b, p => by
    have h1 : (expl a p.1 ++ expl b p.2).take a.n = expl a p.1 := by rw [← expl_len a p.1]; exact List.take_left
    have h2 : (expl a p.1 ++ expl b p.2).drop a.n = expl b p.2 := by rw [← expl_len a p.1]; exact List.drop_left
    show implP (impl m a ((expl a p.1 ++ expl b p.2).take a.n)) (impl m b ((expl a p.1 ++ expl b p.2).drop a.n)) = some p
    rw [h1, h2, impl_self m a, impl_self m b]
    rfl
theorem rowsOf_expl : ∀ (t : Ty) (y : t.den), rowsOf (expl t y) = []
  | .int _, _ => rfl
  | .bool, _ => rfl
  | .str, _ => rfl
  | .unit, _ => rfl
  | .sl _, _ => rfl
  | .pair a b, p => by simp [expl, rowsOf_append, rowsOf_expl a, rowsOf_expl b]

theorem cmp_lays (h : RepM cx σ N m w) {t : Ty} {c : t.den → t.den → Int} {g : FuncId} (hc : CtrOk P g (cmpCon t c).ctr) [Inhabited (El w (Owned cx σ m) t)] {blk : Nat} (hown : Owned cx σ m blk) (hb : blk < w.heap.size) (size : Nat) :
    CmpLays P g #[] (El.enc (w := w) (O := Owned cx σ m) (t := t)) t.n (fun x y => c x.1.1 y.1.1) blk 0 size w := by
  intro q os dk hdk x y
  generalize hW : sortWorldK El.enc t.n w blk 0 q dk os = W
  have w1 : W.heap.size = w.heap.size + os.size := by rw [← hW]; simp [sortWorldK, putRowK, Go.Sort.ahead]
  have w2 : ∀ b, b < w.heap.size → b ≠ blk → W.heap[b]? = w.heap[b]? := fun b hb' hne => by
    rw [← hW]
    unfold sortWorldK
    rw [Go.Sort.heap_grow_old _ _ (by simpa [putRowK, Go.Sort.ahead] using hb')]
    simp [putRowK, putRow, mapBlock, Go.Sort.ahead, Array.getElem?_modify, Ne.symm hne]
  let cx' : Cx := ⟨W, Owned cx σ m, fun _ => False, 0, fun _ => .bool false, [], fun _ => none⟩
  have olt : ∀ b, Owned cx σ m b → b < w.heap.size := by
    rintro b (hb | ⟨id, h1, h2⟩)
    · exact h.hF b hb
    · exact repB_lt (h.blk id) h1 b h2
  have hM : RepM cx' (fun _ => .bool false) (fun _ => True) (fun _ => .dead) W :=
    ⟨fun _ => trivial, fun _ _ => rfl, fun _ _ _ ho => (by cases ho), fun _ _ ho => (by cases ho), fun _ _ ho => (by cases ho), ⟨rfl, rfl, rfl, Nat.le_refl _, Nat.le_refl _, fun _ _ _ => rfl⟩,
      fun b hb' => by have := olt b hb'; omega, fun _ => rfl, (fun i hi => by cases hi), fun _ hD => by cases hD⟩
  have hK : Keep w W (Owned cx σ m) (Owned cx' (fun _ => .bool false) (fun _ => .dead)) := (.ex fun b hb' hno => ⟨by
    rintro (h1 | ⟨id, h1, _⟩)
    · exact hno h1
    · (cases h1), w2 b hb' (fun e => hno (e ▸ hown))⟩)
  have hx := expl_rep (x := rx cx' (fun _ => .bool false) (fun _ => True) (fun _ => .dead) W) t x.1.1 x.1.2 (ro_keep hK t _ _ x.2)
  have hy := expl_rep (x := rx cx' (fun _ => .bool false) (fun _ => True) (fun _ => .dead) W) t y.1.1 y.1.2 (ro_keep hK t _ _ y.2)
  have hrd : rds (fun _ => .dead) (cmpCon t c).ps [.agg (expl t x.1.1), .agg (expl t y.1.1)] = some (x.1.1, y.1.1, ()) := by
    simp only [cmpCon, rds, rd, impl_self, implP]
  have heff : (cmpCon t c).ctr [.agg (expl t x.1.1), .agg (expl t y.1.1)] (fun _ => .dead) 0 = (cmpCon t c).eff [.agg (expl t x.1.1), .agg (expl t y.1.1)] (fun _ => .dead) 0 (x.1.1, y.1.1, ()) := by
    unfold Con.ctr Con.effO
    rw [hrd]
    simp only
    rw [if_pos]
    simp [okIds, cmpCon, pids, pid]
  have hcall := hc cx' (fun _ => .bool false) (fun _ => True) (fun _ => .dead) W 0 [.agg (expl t x.1.1), .agg (expl t y.1.1)] [.agg x.1.2.toArray, .agg y.1.2.toArray] hM (fun _ _ _ => trivial)
    (by
      unfold repAs
      refine ⟨_, _, rfl, by unfold repA; exact ⟨_, rfl, hx⟩, ?_⟩
      unfold repAs
      refine ⟨_, _, rfl, by unfold repA; exact ⟨_, rfl, hy⟩, ?_⟩
      unfold repAs; rfl) (by rw [heff]; trivial)
  rw [heff] at hcall
  refine hcall.mono ?_
  rintro e w' ⟨v, rfl, σ', h1, _, h3, _⟩
  have h3' : v = .int .i64 (c x.1.1 y.1.1) := by
    simp only [Con.eff, cmpCon, ravs, rav, avOf, expl, pack, Bool.false_eq_true, if_false] at h3
    exact (of_int h3).1
  have ev := h1.evo
  refine ⟨by rw [h3'], ?_⟩
  exact grown_eq ev.os ev.tape ev.output ev.drawn ev.size (fun b hb' => ev.block b hb' (fun hf => hf))

/-- slices.SortFunc. -/
def sortFCon (e : TypeId) (t : Ty) (g : FuncId) (c : t.den → t.den → Int) : RCon := { ps := [.o e t, .cl g []], rs := [], pre := fun x => x.1.length < 4611686018427387904, rel := fun x _ z => z.1.Perm x.1 ∧ z.1.Pairwise (fun a b => ¬ c b a < 0) }

theorem sort_func {ρ : Go.Shelf.Ren} (L : Go.Proofs.SlLaysF0.n6 P ρ) {e : TypeId} {t : Ty} (hpos : 0 < t.n) (aE : ∀ w, (isAgg (ρ.t 24)).run P w = .ok true w) (zE : ∀ w, (Go.sizeOf (ρ.t 24)).run P w = .ok t.n w)
    {g : FuncId} {c : t.den → t.den → Int} (hc : CtrOk P g (cmpCon t c).ctr) (hg : FnHas P g) (hO : SWO (fun x y => decide (c x y < 0))) : RCtrOk P (ρ.f 6) (sortFCon e t g c).rctr := by
  intro cx σ N m w fr avs vs h hfr hreps hp
  unfold RCon.rctr RCon.chcO at hp ⊢
  cases hrd : rds m (sortFCon e t g c).ps avs with
  | none => rw [hrd] at hp; exact hp.elim
  | some x =>
    rw [hrd] at hp
    simp only at hp ⊢
    split at hp
    · rename_i hid
      rw [if_pos hid]
      obtain ⟨xs, u, u'⟩ := x
      cases u; cases u'
      match avs, hrd, hreps, hid with
      | [v, f], hrd, hreps, hid =>
        simp only [sortFCon, rds] at hrd
        obtain ⟨h1, hr2⟩ := implP_some hrd
        obtain ⟨hf1, _⟩ := implP_some hr2
        obtain ⟨id, rfl, h2⟩ := rd_o h1
        obtain ⟨caps, rfl, hcp⟩ := rd_cl hf1
        have hcaps : caps = [] := by
          cases caps with
          | nil => rfl
          | cons _ _ => simp [rdCaps] at hcp
        subst hcaps
        have hm := rdRow_some h2
        unfold repAs at hreps
        obtain ⟨v0, r, rfl, h3, h4⟩ := hreps
        unfold repAs at h4
        obtain ⟨v1, r1, rfl, h5, h6⟩ := h4
        unfold repAs at h6
        subst h6
        unfold repA repC at h3 h5
        obtain ⟨hn, rfl⟩ := h3
        obtain ⟨ws, rfl, h7⟩ := h5
        rw [repCs_nil] at h7
        subst h7
        simp only [rx] at hn ⊢
        have hsz : xs.length < 4611686018427387904 := hp
        have goal_eff : ∀ (w' : World) (ys : List t.den), ys.Perm xs → ys.Pairwise (fun a b => ¬ c b a < 0) → Res cx σ N m w fr ⟨xs.length < 4611686018427387904, .tup [], [(id, .row e t ys)], True⟩ (.tuple #[]) w' →
            ∃ v, Ending.returned (.tuple #[]) = .returned v ∧ ∃ a, Res cx σ N m w fr ⟨((sortFCon e t g c).chc [.one (.row id), .one (.fn g [])] m fr (xs, (), ())).pre, ((sortFCon e t g c).chc [.one (.row id), .one (.fn g [])] m fr (xs, (), ())).r a,
              ((sortFCon e t g c).chc [.one (.row id), .one (.fn g [])] m fr (xs, (), ())).u a, ((sortFCon e t g c).chc [.one (.row id), .one (.fn g [])] m fr (xs, (), ())).asm a⟩ v w' := by
          rintro w' ys hys1 hys2 ⟨σ', r1, r2, r3, _⟩
          refine ⟨_, rfl, ((), (ys, (), ())), σ', ?_, ?_, r3, ⟨hys1, hys2⟩, trivial⟩
          · have : (((sortFCon e t g c).chc [.one (.row id), .one (.fn g [])] m fr (xs, (), ())).u ((), (ys, (), ()))) = [(id, .row e t ys)] := by
              simp [RCon.chc, sortFCon, updC, rws, rw1, pupd, pid, nbl, pbl, capIds, capBlks, rheap, capRows]
            rw [this]; exact r1
          · have : (((sortFCon e t g c).chc [.one (.row id), .one (.fn g [])] m fr (xs, (), ())).u ((), (ys, (), ()))) = [(id, .row e t ys)] := by
              simp [RCon.chc, sortFCon, updC, rws, rw1, pupd, pid, nbl, pbl, capIds, capBlks, rheap, capRows]
            rw [this]; exact r2
        have hb := h.blk id
        rw [hm] at hb
        obtain ⟨n', flat, rfl, k1, k2⟩ := hb
        simp only [rx] at k1 k2
        have none_case : xs = [] → ∀ a0 cap0, σ id = .slice a0 0 cap0 → Calls P (ρ.f 6) #[σ id, .func (.func g) #[] #[]] w fun e_1 w' => ∃ v, e_1 = .returned v ∧ ∃ a, Res cx σ N m w fr ⟨((sortFCon e t g c).chc [.one (.row id), .one (.fn g [])] m fr (xs, (), ())).pre, ((sortFCon e t g c).chc [.one (.row id), .one (.fn g [])] m fr (xs, (), ())).r a,
              ((sortFCon e t g c).chc [.one (.row id), .one (.fn g [])] m fr (xs, (), ())).u a, ((sortFCon e t g c).chc [.one (.row id), .one (.fn g [])] m fr (xs, (), ())).asm a⟩ v w' := by
          intro hx a0 cap0 e1
          subst hx
          rw [e1]
          refine (Go.Proofs.AnyF.slices_SortFunc_none L a0 cap0 _ w).mono ?_
          rintro e' w' ⟨rfl, rfl⟩
          refine goal_eff _ [] (List.Perm.refl _) List.Pairwise.nil ?_
          obtain ⟨g1, g2⟩ := h.weaken (N' := Nx N fr) (fun _ k => k.1)
          have hmm : updM m [(id, Blk.row e t [])] = m := same_row hm
          refine ⟨σ, ?_, ?_, ?_, trivial⟩ <;> simp only [hmm]
          · exact g1
          · exact g2
          · unfold repA; exact ⟨[], rfl, by unfold repAs; rfl⟩
        rcases k1.2 with ⟨e2, a0, e1⟩ | ⟨g0, cap, cur, hcp0, e1, hg0, hlc, hcm, hcs, htk⟩
        · exact none_case (List.eq_nil_of_length_eq_zero e2) a0 0 e1
        · by_cases hx0 : xs = []
          · exact none_case hx0 _ cap (by rw [e1, hx0]; rfl)
          · obtain ⟨d, hd1, hd2⟩ := roAll_els xs flat k2
            have hdn : d ≠ [] := by rintro rfl; exact hx0 hd1.symm
            letI : Inhabited (El w (Owned cx σ m) t) := ⟨d.head hdn⟩
            have hdl : d.length = xs.length := by rw [← hd1, List.length_map]
            have hk : ∀ x : El w (Owned cx σ m) t, (El.enc x).length = t.n := fun x => ro_len t _ _ x.2
            have ho1 : ∀ x : El w (Owned cx σ m) t, ∀ v ∈ El.enc x, v.oneCell' = true := fun x => ro_one t _ _ x.2
            have hFl := flatK_list El.enc t.n hpos hk d.toArray
            rw [List.toList_toArray, hd2] at hFl
            have hlt : g0 < w.heap.size := (Array.getElem?_eq_some_iff.1 hg0).1
            have hH : HoldsK El.enc t.n w g0 0 d.toArray := by
              intro j hj
              rw [Nat.zero_add]
              refine ⟨rowR_cells k1 (g := g0) (by rw [e1]; exact blkOf_slice hcp0) j _ ?_, by simp [World.frozen?, hg0]⟩
              rw [← hFl, Array.getElem?_toList, Array.getElem?_eq_getElem hj, getElem!_pos _ j hj]
              rfl
            have hown : Owned cx σ m g0 := .inr ⟨id, by rw [hm]; rfl, by rw [e1]; exact .inl (blkOf_slice hcp0)⟩
            have hO' : SWO (ltOf fun x y : El w (Owned cx σ m) t => c x.1.1 y.1.1) := ⟨fun x => hO.irrefl x.1.1, fun x y z => hO.trans x.1.1 y.1.1 z.1.1, fun x y z => hO.ntrans x.1.1 y.1.1 z.1.1⟩
            have hcall := Go.Proofs.AnyQ.slices_SortFunc L t.n aE zE El.enc hk ho1 (fun x y : El w (Owned cx σ m) t => c x.1.1 y.1.1) hO' g #[] g0 0 cap d.toArray w (callFunc_enter hg) (cmp_lays h hc hown hlt _) hH hlt (by simpa [hdl] using hsz)
            rw [e1, ← hdl]
            simp only [List.size_toArray] at hcall
            refine hcall.mono ?_
            rintro e' w' ⟨rfl, d', n, os, hperm, hsort, rfl⟩
            obtain ⟨hps, _, hpp⟩ := hperm
            simp only [List.size_toArray] at hps hpp
            have hpp' : d'.toList.Perm d := by
              have e1 : d'.extract 0 d.length = d' := by rw [← hps]; exact Array.extract_size
              have e2 : d.toArray.extract 0 d.length = d.toArray := by
                have := Array.extract_size (xs := d.toArray)
                simp
              rw [e1, e2] at hpp
              simpa using hpp
            have hl' : (d'.toList.map (fun p => p.1.1)).length = xs.length := by simp [hps, hdl]
            refine goal_eff _ (d'.toList.map (fun p => p.1.1)) (by rw [← hd1]; exact hpp'.map _) ?_ ?_
            · rw [List.pairwise_map, List.pairwise_iff_getElem]
              intro i j hi hj hij
              have := hsort i j (Nat.zero_le _) hij (by simpa [hps] using hj)
              rw [getElem!_pos d' i (by simpa using hi), getElem!_pos d' j (by simpa using hj)] at this
              simp only [ltOf, decide_eq_false_iff_not] at this
              simpa using this
            · refine row_sorted h hn hm e1 hcp0 hg0 hlc hcm hcs hl' ?_ (sorted_world hg0 ?_ n os) fr _ trivial
              · rw [flatK_list El.enc t.n hpos hk]
                exact els_roAll d'.toList
              · rw [Go.Sort.size_flatK, hps, hdl, hcs]
                exact Nat.mul_le_mul_right _ hlc
      | [], hrd, _, _ => simp [sortFCon, rds] at hrd
      | [_], hrd, _, _ =>
        simp only [sortFCon, rds] at hrd
        obtain ⟨_, h2⟩ := implP_some hrd
        cases h2
      | _ :: _ :: _ :: _, hrd, _, _ =>
        simp only [sortFCon, rds] at hrd
        obtain ⟨_, h2⟩ := implP_some hrd
        obtain ⟨_, h3⟩ := implP_some h2
        cases h3
    · exact hp.elim

end
end Go.Ev

/- Orders: comparisons that answer with a sign; lists in order; the one list in order. -/
set_option linter.unusedSimpArgs false
set_option linter.unusedVariables false
namespace Go.Ev
open Go.Sort (SWO)

def cmpV (a b : Int) : Int := if a < b then -1 else if a > b then 1 else 0
def orV : List Int → Int
  | [] => 0
  | x :: l => if x = 0 then orV l else x
/-- What a comparison is. -/
structure Cmp {α : Type} (c : α → α → Int) : Prop where
  eq : ∀ a b, c a b = 0 ↔ a = b
  anti : ∀ a b, c a b < 0 ↔ 0 < c b a
  trans : ∀ a b d, c a b < 0 → c b d < 0 → c a d < 0
  unit : ∀ a b, -1 ≤ c a b ∧ c a b ≤ 1
theorem cmpV_cmp : Cmp cmpV := by
  refine ⟨fun a b => ?_, fun a b => ?_, fun a b d => ?_, fun a b => ?_⟩ <;> unfold cmpV
  · split
    · omega
    · split <;> omega
  · (repeat' split) <;> omega
  · intro h1 h2
    have a1 : a < b := by
      apply Classical.byContradiction
      intro h
      rw [if_neg h] at h1
      split at h1 <;> omega
    have a2 : b < d := by
      apply Classical.byContradiction
      intro h
      rw [if_neg h] at h2
      split at h2 <;> omega
    rw [if_pos (by omega)]; omega
  · split
    · omega
    · split <;> omega
def lexC {α β : Type} (c : α → α → Int) (d : β → β → Int) (x y : α × β) : Int := if c x.1 y.1 = 0 then d x.2 y.2 else c x.1 y.1
theorem Cmp.lex {α β : Type} {c : α → α → Int} {d : β → β → Int} (hc : Cmp c) (hd : Cmp d) : Cmp (lexC c d) := by
  have sym : ∀ a b, c a b = 0 → c b a = 0 := fun a b h => (hc.eq b a).2 ((hc.eq a b).1 h).symm
  refine ⟨fun a b => ?_, fun a b => ?_, fun a b e => ?_, fun a b => ?_⟩ <;> unfold lexC
  · by_cases h : c a.1 b.1 = 0
    · rw [if_pos h, hd.eq]
      have := (hc.eq _ _).1 h
      exact ⟨fun k => Prod.ext this k, fun k => by rw [k]⟩
    · rw [if_neg h]
      exact ⟨fun k => absurd k h, fun k => absurd ((hc.eq _ _).2 (by rw [k])) h⟩
  · by_cases h : c a.1 b.1 = 0
    · rw [if_pos h, if_pos (sym _ _ h)]; exact hd.anti _ _
    · rw [if_neg h, if_neg (fun k => h (sym _ _ k))]; exact hc.anti _ _
  · by_cases h : c a.1 b.1 = 0
    · have e1 := (hc.eq _ _).1 h
      rw [if_pos h, e1]
      by_cases h2 : c b.1 e.1 = 0
      · simp only [h2, if_true]; exact hd.trans _ _ _
      · simp only [h2, if_false]; exact fun _ k => k
    · rw [if_neg h]
      by_cases h2 : c b.1 e.1 = 0
      · rw [if_pos h2, ← (hc.eq _ _).1 h2, if_neg h]; exact fun k _ => k
      · rw [if_neg h2]
        intro k1 k2
        have := hc.trans _ _ _ k1 k2
        rw [if_neg (by omega)]; exact this
  · split
    · exact hd.unit _ _
    · exact hc.unit _ _
theorem Cmp.swo {α : Type} {c : α → α → Int} (h : Cmp c) : SWO (fun x y => decide (c x y < 0)) := by
  refine ⟨fun x => ?_, fun x y z h1 h2 => ?_, fun x y z h1 h2 => ?_⟩
  · have := (h.eq x x).2 rfl
    exact decide_eq_false (by omega)
  · exact decide_eq_true (h.trans x y z (of_decide_eq_true h1) (of_decide_eq_true h2))
  · have a1 := of_decide_eq_false h1
    have a2 := of_decide_eq_false h2
    refine decide_eq_false fun k => ?_
    by_cases e : c x y = 0
    · rw [(h.eq _ _).1 e] at k; exact a2 k
    · have := h.anti x y
      have b := h.anti y x
      have e2 : c y x ≠ 0 := fun q => e ((h.eq _ _).2 ((h.eq _ _).1 q).symm)
      have : c y x < 0 := by omega
      exact a2 (h.trans _ _ _ this k)
/-- In the order of a comparison. -/
def sortBy {α : Type} (c : α → α → Int) (l : List α) : List α := l.mergeSort (fun a b => decide (c a b ≤ 0))
theorem sortBy_perm {α : Type} (c : α → α → Int) (l : List α) : (sortBy c l).Perm l := List.mergeSort_perm l _
theorem Cmp.tot {α : Type} {c : α → α → Int} (h : Cmp c) (a b : α) : ¬ c a b ≤ 0 → c b a < 0 := fun k => (h.anti b a).2 (by omega)
theorem sortBy_sorted {α : Type} {c : α → α → Int} (h : Cmp c) (l : List α) : (sortBy c l).Pairwise (fun a b => c a b ≤ 0) := by
  have k := List.pairwise_mergeSort (le := fun a b : α => decide (c a b ≤ 0)) (fun a b d h1 h2 => by
    have h1 := of_decide_eq_true h1
    have h2 := of_decide_eq_true h2
    refine decide_eq_true ?_
    by_cases e1 : c a b = 0
    · rw [(h.eq _ _).1 e1]; exact h2
    · by_cases e2 : c b d = 0
      · rw [← (h.eq _ _).1 e2]; exact h1
      · have := h.trans a b d (by omega) (by omega)
        omega) (fun a b => by
    simp only [Bool.or_eq_true, decide_eq_true_eq]
    by_cases q : c a b ≤ 0
    · exact .inl q
    · have := h.tot _ _ q
      exact .inr (by omega)) l
  exact k.imp (fun h => by simpa using h)
/-- There is one list in order. -/
theorem sortBy_eq {α : Type} {c : α → α → Int} (h : Cmp c) {l z : List α} (hp : z.Perm l) (hs : z.Pairwise (fun a b => ¬ c b a < 0)) : z = sortBy c l := by
  refine List.Perm.eq_of_pairwise (le := fun a b : α => ¬ c b a < 0) (fun a b _ _ h1 h2 => ?_) hs ((sortBy_sorted h l).imp (fun {a b} q k => by
    have := (h.anti b a).1 k; omega)) (hp.trans (sortBy_perm c l).symm)
  have := h.anti b a
  exact (h.eq _ _).1 (by omega)
end Go.Ev

/- The contracts of the functions that the statements about the merge reach: the order of plates; the operations about each plate. -/
set_option linter.unusedSimpArgs false
set_option linter.unusedVariables false
set_option maxRecDepth 100000
set_option maxHeartbeats 4000000
namespace Go.Proofs.Ythiddcobegnokaa
open Go.Ev

abbrev Plt := Int × Int × Int
abbrev Pce := Plt × Int × Int
abbrev Opn := Int × Int × Int × Int × Int × Pce
def Opn.plate (o : Opn) : Plt := o.2.2.2.2.2.1
def Opn.time (o : Opn) : Int := o.1
def Opn.device (o : Opn) : Int := o.2.1
def Opn.seq (o : Opn) : Int := o.2.2.1
def Opn.kind (o : Opn) : Int := o.2.2.2.1
def Opn.box (o : Opn) : Int := o.2.2.2.2.1
def con86 : Con := { ps := [.d false (.int .i64)], rs := [.d false .bool], pre := fun _ => True, out := fun x => (false, ()), nw := id }
theorem c86 : CtrOk Try.prog 86 con86.ctr :=
  con_sound (G := ⟨[], [], [], []⟩) tab_ok EnvOk.nil rfl Try.func86 rfl con86 5 (by kernel_rfl) (by decide) (by decide) rfl (by decide) rfl (by
    rintro ⟨(p : Int), _⟩ hpre hwf X hT hG hk hK
    (simp -implicitDefEqProofs only [go_sem, Prod.eta, Option.isSome_none, Option.isSome_some, Int.toNat_zero, Nat.reduceAdd, Nat.reduceMul, Nat.reduceSub, Nat.reduceEqDiff, Nat.reduceLT, Nat.reduceLeDiff, Nat.reduceShiftRight, Nat.reduceMod, Nat.reduceBEq, reduceCtorEq, reduceIte, reduceDIte, Int.reduceNeg, con86, hT, hG, hk, hK, Try.results86] at hwf ⊢); (try simp (disch := decide +kernel) only [drawn, true_and, and_true]))
def con67 : Con := { ps := [.d false (.int .i64), .d false (.int .i64)], rs := [.d false (.int .i64)], pre := fun _ => True, out := fun x => (cmpV x.1 x.2.1, ()), nw := id }
theorem c67 : CtrOk Try.prog 67 con67.ctr :=
  con_sound (G := ⟨[(86, con86.ctr)], [], [], []⟩) tab_ok (EnvOk.cons c86 has86 EnvOk.nil) rfl Try.func67 rfl con67 604275 (by kernel_rfl) (by decide) (by decide) rfl (by decide) rfl (by
    rintro ⟨(a : Int), (b : Int), _⟩ hpre hwf X hT hG hk hK
    (simp -implicitDefEqProofs only [go_sem, Prod.eta, Option.isSome_none, Option.isSome_some, Int.toNat_zero, Nat.reduceAdd, Nat.reduceMul, Nat.reduceSub, Nat.reduceEqDiff, Nat.reduceLT, Nat.reduceLeDiff, Nat.reduceShiftRight, Nat.reduceMod, Nat.reduceBEq, reduceCtorEq, reduceIte, reduceDIte, Int.reduceNeg, con67, con86, hT, hG, hk, hK, Try.results67] at hwf ⊢); (try simp (disch := decide +kernel) only [drawn, true_and, and_true])
    unfold cmpV
    refine ⟨fun h => h.elim, fun h => h.elim, fun h => by rw [if_pos h], fun h => ⟨fun k => by rw [if_neg h, if_pos k], fun k => by rw [if_neg h, if_neg k]⟩⟩)
def con66 : Con := { ps := [.d false (.sl (.int .i64))], rs := [.d false (.int .i64)], pre := fun _ => True, out := fun x => (orV x.1, ()), nw := id }
theorem c66 : CtrOk Try.prog 66 con66.ctr :=
  con_sound (G := ⟨[], [], [], []⟩) tab_ok EnvOk.nil rfl Try.func66 rfl con66 17389 (by kernel_rfl) (by decide) (by decide) rfl (by decide) rfl (by
    rintro ⟨(l : List Int), _⟩ hpre hwf X hT hG hk hK
    (simp -implicitDefEqProofs only [go_sem, Prod.eta, Option.isSome_none, Option.isSome_some, Int.toNat_zero, Nat.reduceAdd, Nat.reduceMul, Nat.reduceSub, Nat.reduceEqDiff, Nat.reduceLT, Nat.reduceLeDiff, Nat.reduceShiftRight, Nat.reduceMod, Nat.reduceBEq, reduceCtorEq, reduceIte, reduceDIte, Int.reduceNeg, Bool.not_eq_true', Bool.not_eq_false', Bool.or_eq_true, Bool.or_eq_false_iff, Bool.and_eq_true, Bool.and_eq_false_iff, decide_eq_true_eq, decide_eq_false_iff_not, Classical.not_not, not_or, maxLen, con66, hT, hG, hk, hK, Try.results66] at hwf ⊢); (try simp (disch := decide +kernel) only [drawn, true_and, and_true])
    intro hl
    refine evk_loop ⟨{ i : Nat // i ≤ l.length ∧ orV l = orV (l.drop i) }, 1000, fun i => [(3, .one (.int .i64 0)), (6, .one (.sl (.int .i64) l false)), (7, .one (.int .i64 l.length)), (8, .one (.int .i64 i.1))], fun _ => [], fun i => l.length - i.1⟩ ⟨0, by simp, by simp⟩ ?_ ?_
    · simp only [go_sem, Prod.eta, Option.isSome_none, Option.isSome_some, Int.toNat_zero, Nat.reduceAdd, Nat.reduceMul, Nat.reduceSub, Nat.reduceEqDiff, Nat.reduceLT, Nat.reduceLeDiff, Nat.reduceShiftRight, Nat.reduceMod, Nat.reduceBEq, reduceCtorEq, reduceIte, reduceDIte, Int.reduceNeg]
      rfl
    · rintro ⟨i, (hi : i ≤ l.length), (he : orV l = orV (l.drop i))⟩
      (simp -implicitDefEqProofs only [go_sem, Prod.eta, Option.isSome_none, Option.isSome_some, Int.toNat_zero, Nat.reduceAdd, Nat.reduceMul, Nat.reduceSub, Nat.reduceEqDiff, Nat.reduceLT, Nat.reduceLeDiff, Nat.reduceShiftRight, Nat.reduceMod, Nat.reduceBEq, reduceCtorEq, reduceIte, reduceDIte, Int.reduceNeg, Bool.not_eq_true', Bool.not_eq_false', Bool.or_eq_true, Bool.or_eq_false_iff, Bool.and_eq_true, Bool.and_eq_false_iff, decide_eq_true_eq, decide_eq_false_iff_not, Classical.not_not, not_or, maxLen, con66, hT, hG, hk, hK, Try.results66]); (try simp (disch := decide +kernel) only [drawn, true_and, and_true])
      refine ⟨fun hlt => ?_, fun hge => ?_⟩
      · have hi' : i < l.length := by omega
        have ek : l.getD (i : Int).toNat 0 = l[i] := by simp [hi']
        rw [ek]
        have hst : orV l = if l[i] = 0 then orV (l.drop (i + 1)) else l[i] := by
          rw [he, List.drop_eq_getElem_cons hi', orV]
        (repeat' (with_reducible (first | refine And.intro ?_ ?_ | intro _))) <;> (try (first | with_reducible (first | done | assumption | omega | contradiction) | decide))
        all_goals rename_i h
        · first
            | rw [hst, if_neg h]
            | (refine fin_lp ⟨i + 1, by omega, ?_⟩ ?_ ?_
               · rw [hst, if_pos h]
               · simp only [go_sem, Prod.eta, Option.isSome_none, Option.isSome_some, Int.toNat_zero, Nat.reduceAdd, Nat.reduceMul, Nat.reduceSub, Nat.reduceEqDiff, Nat.reduceLT, Nat.reduceLeDiff, Nat.reduceShiftRight, Nat.reduceMod, Nat.reduceBEq, reduceCtorEq, reduceIte, reduceDIte, Int.reduceNeg]
                 rfl
               · show l.length - (i + 1) < l.length - i
                 omega)
      · rw [he, List.drop_of_length_le (by omega)]
        rfl)
def pltC (a b : Plt) : Int := lexC cmpV (lexC cmpV cmpV) a b
theorem pltC_cmp : Cmp pltC := cmpV_cmp.lex (cmpV_cmp.lex cmpV_cmp)
def con70 : Con := { ps := [.d true (.pair (.int .i64) (.pair (.int .i64) (.int .i64))), .d true (.pair (.int .i64) (.pair (.int .i64) (.int .i64)))], rs := [.d false (.int .i64)], pre := fun _ => True, out := fun (x : Plt × Plt × Unit) => (pltC x.1 x.2.1, ()), nw := id }
theorem c70 : CtrOk Try.prog 70 con70.ctr :=
  con_sound (G := ⟨[(66, con66.ctr), (67, con67.ctr)], [], [], []⟩) tab_ok (EnvOk.cons c66 has66 (EnvOk.cons c67 has67 EnvOk.nil)) rfl Try.func70 rfl con70 31 (by kernel_rfl) (by decide) (by decide) rfl (by decide) rfl (by
    rintro ⟨⟨(a1 : Int), (a2 : Int), (a3 : Int)⟩, ⟨(b1 : Int), (b2 : Int), (b3 : Int)⟩, _⟩ hpre hwf X hT hG hk hK
    (simp -implicitDefEqProofs only [go_sem, Prod.eta, Option.isSome_none, Option.isSome_some, Int.toNat_zero, Nat.reduceAdd, Nat.reduceMul, Nat.reduceSub, Nat.reduceEqDiff, Nat.reduceLT, Nat.reduceLeDiff, Nat.reduceShiftRight, Nat.reduceMod, Nat.reduceBEq, reduceCtorEq, reduceIte, reduceDIte, Int.reduceNeg, Bool.not_eq_true', Bool.not_eq_false', Bool.or_eq_true, Bool.or_eq_false_iff, Bool.and_eq_true, Bool.and_eq_false_iff, decide_eq_true_eq, decide_eq_false_iff_not, Classical.not_not, not_or, maxLen, con70, con66, con67, hT, hG, hk, hK, Try.results70] at hwf ⊢); (try simp (disch := decide +kernel) only [drawn, true_and, and_true])
    (repeat' (with_reducible (first | refine And.intro ?_ ?_ | intro _))) <;> (try (first | with_reducible (first | done | assumption | omega | contradiction) | decide))
    unfold pltC lexC
    simp only [orV]
    (repeat' split) <;> first | rfl | omega)
def con69 : RCon := sortFCon 33 (.pair (.int .i64) (.pair (.int .i64) (.int .i64))) 70 (fun a b => pltC a b)
theorem c69 : RCtrOk Try.prog 69 con69.rctr := sort_func (e := 33) (t := (.pair (.int .i64) (.pair (.int .i64) (.int .i64)))) Try.sortF (by decide) Try.isAgg33 Try.sizeOf33 (c := fun (a b : Plt) => pltC a b) c70 has70 pltC_cmp.swo
def con72 : Con := { ps := [.o 3 (.int .i64)], rs := [], pre := fun x => x.1.length < 4611686018427387904, out := fun _ => (), nw := fun x => (sortI x.1, ()) }
theorem c72 : CtrOk Try.prog 72 con72.ctr := sort_int Try.sortA 3
end Go.Proofs.Ythiddcobegnokaa

/- The contracts of the functions that the statements about the merge reach: the operations about each plate. -/
set_option linter.unusedSimpArgs false
set_option linter.unusedVariables false
set_option maxRecDepth 100000
set_option maxHeartbeats 4000000
namespace Go.Proofs.Ythiddcobegnokaa
open Go.Ev

/-- The plates, in the order in which they come; the operations about each. -/
def abK (l : List Opn) : List Plt := l.foldl (fun ks o => kput (kt := (.pair (.int .i64) (.pair (.int .i64) (.int .i64)))) o.plate ks) []
def abG (l : List Opn) : List (List Opn) := (abK l).map (fun k => l.filter (fun o => decide (o.plate = k)))
theorem pl_eq (a b : Plt) : keyEq (.pair (.int .i64) (.pair (.int .i64) (.int .i64))) a b = decide (a = b) := by
  obtain ⟨a1, a2, a3⟩ := a
  obtain ⟨b1, b2, b3⟩ := b
  simp only [keyEq, Prod.mk.injEq]
  rw [Bool.eq_iff_iff]
  simp only [Bool.and_eq_true, decide_eq_true_eq]
theorem kidx_lt {k : Plt} : ∀ {ks : List Plt}, kidx (kt := (.pair (.int .i64) (.pair (.int .i64) (.int .i64)))) k ks < ks.length ↔ k ∈ ks
  | [] => by simp [kidx]
  | a :: l => by
    unfold kidx
    rw [pl_eq]
    by_cases h : k = a
    · rw [if_pos (by simpa using h)]; simp [h]
    · rw [if_neg (by simpa using h), List.length_cons, Nat.succ_lt_succ_iff, kidx_lt, List.mem_cons]
      exact ⟨.inr, fun q => q.resolve_left h⟩
theorem kidx_get {k : Plt} {ks : List Plt} (h : k ∈ ks) : ks[kidx (kt := (.pair (.int .i64) (.pair (.int .i64) (.int .i64)))) k ks]? = some k := by
  obtain ⟨a, h1, h2⟩ := kidx_at (kt := (.pair (.int .i64) (.pair (.int .i64) (.int .i64)))) k ks (kidx_lt.2 h)
  rw [pl_eq, decide_eq_true_eq] at h2
  rw [h1, h2]
theorem kidx_end {k : Plt} {ks : List Plt} (h : ¬ k ∈ ks) : kidx (kt := (.pair (.int .i64) (.pair (.int .i64) (.int .i64)))) k ks = ks.length := by
  have h1 := kidx_le (kt := (.pair (.int .i64) (.pair (.int .i64) (.int .i64)))) k ks
  have h2 : ¬ kidx (kt := (.pair (.int .i64) (.pair (.int .i64) (.int .i64)))) k ks < ks.length := fun q => h (kidx_lt.1 q)
  have h3 : (kidx (kt := (.pair (.int .i64) (.pair (.int .i64) (.int .i64)))) k ks) ≤ ks.length := h1
  omega
theorem kput_mem {k a : Plt} {ks : List Plt} : a ∈ kput (kt := (.pair (.int .i64) (.pair (.int .i64) (.int .i64)))) k ks ↔ a = k ∨ a ∈ ks := by
  unfold kput
  split
  · rename_i h
    have := kidx_lt.1 h
    exact ⟨.inr, fun q => q.elim (fun e => e ▸ this) id⟩
  · rw [List.mem_append, List.mem_singleton]
    exact ⟨fun q => q.elim .inr .inl, fun q => q.elim .inr .inl⟩
theorem abK_snoc (l : List Opn) (o : Opn) : abK (l ++ [o]) = kput (kt := (.pair (.int .i64) (.pair (.int .i64) (.int .i64)))) o.plate (abK l) := by simp [abK]
theorem abK_mem (k : Plt) : ∀ l : List Opn, k ∈ abK l ↔ ∃ o ∈ l, o.plate = k := by
  intro l
  have key : ∀ (l : List Opn) (acc : List Plt), k ∈ l.foldl (fun ks o => kput (kt := (.pair (.int .i64) (.pair (.int .i64) (.int .i64)))) o.plate ks) acc ↔ k ∈ acc ∨ ∃ o ∈ l, o.plate = k := by
    intro l
    induction l with
    | nil => intro acc; simp
    | cons x l ih =>
      intro acc
      rw [List.foldl_cons, ih, kput_mem]
      constructor
      · rintro ((h | h) | ⟨o, ho, h⟩)
        · exact .inr ⟨x, by simp, h.symm⟩
        · exact .inl h
        · exact .inr ⟨o, by simp [ho], h⟩
      · rintro (h | ⟨o, ho, h⟩)
        · exact .inl (.inr h)
        · rcases List.mem_cons.1 ho with rfl | ho
          · exact .inl (.inl h.symm)
          · exact .inr ⟨o, ho, h⟩
  have := key l []
  rw [show abK l = l.foldl (fun ks o => kput (kt := (.pair (.int .i64) (.pair (.int .i64) (.int .i64)))) o.plate ks) [] from rfl, this]
  exact ⟨fun h => h.resolve_left (by simp), .inr⟩
theorem kput_nodup {k : Plt} {ks : List Plt} (h : ks.Nodup) : (kput (kt := (.pair (.int .i64) (.pair (.int .i64) (.int .i64)))) k ks).Nodup := by
  unfold kput
  split
  · exact h
  · rename_i q
    have hn : ¬ k ∈ ks := fun e => q (kidx_lt.2 e)
    rw [List.nodup_append]
    exact ⟨h, by simp, fun a ha b hb e => hn (by rw [List.mem_singleton] at hb; rw [← hb, ← e]; exact ha)⟩
theorem abK_nodup (l : List Opn) : (abK l).Nodup := by
  have key : ∀ (l : List Opn) (acc : List Plt), acc.Nodup → (l.foldl (fun ks o => kput (kt := (.pair (.int .i64) (.pair (.int .i64) (.int .i64)))) o.plate ks) acc).Nodup := by
    intro l
    induction l with
    | nil => intro acc h; exact h
    | cons x l ih => intro acc h; exact ih _ (kput_nodup h)
  exact key l [] List.nodup_nil
theorem kput_len {k : Plt} {ks : List Plt} : (kput (kt := (.pair (.int .i64) (.pair (.int .i64) (.int .i64)))) k ks).length ≤ ks.length + 1 := by
  unfold kput; split <;> simp
theorem abK_len (l : List Opn) : (abK l).length ≤ l.length := by
  have key : ∀ (l : List Opn) (acc : List Plt), (l.foldl (fun ks o => kput (kt := (.pair (.int .i64) (.pair (.int .i64) (.int .i64)))) o.plate ks) acc).length ≤ acc.length + l.length := by
    intro l
    induction l with
    | nil => intro acc; simp
    | cons x l ih =>
      intro acc
      have h1 := ih (kput (kt := (.pair (.int .i64) (.pair (.int .i64) (.int .i64)))) x.plate acc)
      have h2 := kput_len (k := x.plate) (ks := acc)
      rw [List.foldl_cons, List.length_cons]
      omega
  have := key l []
  simpa [abK] using this
theorem abG_len (l : List Opn) : (abG l).length = (abK l).length := by simp [abG]
theorem abG_at {l : List Opn} {k : Plt} (h : k ∈ abK l) : (abG l).getD (kidx (kt := (.pair (.int .i64) (.pair (.int .i64) (.int .i64)))) k (abK l)) [] = l.filter (fun o => decide (o.plate = k)) := by
  have hg := kidx_get h
  unfold abG
  rw [List.getD, List.getElem?_map, hg]
  rfl
theorem abG_end {l : List Opn} {k : Plt} (h : ¬ k ∈ abK l) : (abG l).getD (kidx (kt := (.pair (.int .i64) (.pair (.int .i64) (.int .i64)))) k (abK l)) [] = [] := by
  rw [kidx_end h, List.getD, List.getElem?_eq_none (by rw [abG_len]; exact Nat.le_refl _)]
  rfl
theorem abG_zero {l : List Opn} {k : Plt} : (abG l).getD (kidx (kt := (.pair (.int .i64) (.pair (.int .i64) (.int .i64)))) k (abK l)) [] = [] ↔ ¬ k ∈ abK l := by
  constructor
  · intro h hk
    rw [abG_at hk] at h
    obtain ⟨o, ho, hp⟩ := (abK_mem k l).1 hk
    have : o ∈ l.filter (fun o => decide (o.plate = k)) := List.mem_filter.2 ⟨ho, by simpa using hp⟩
    rw [h] at this
    cases this
  · exact abG_end
/-- One operation more. -/
theorem abG_snoc (l : List Opn) (o : Opn) : (hset (abG l) (kidx (kt := (.pair (.int .i64) (.pair (.int .i64) (.int .i64)))) o.plate (abK l)) []).set (kidx (kt := (.pair (.int .i64) (.pair (.int .i64) (.int .i64)))) o.plate (abK l)) ((abG l).getD (kidx (kt := (.pair (.int .i64) (.pair (.int .i64) (.int .i64)))) o.plate (abK l)) [] ++ [o]) = abG (l ++ [o]) := by
  have hlen := abG_len l
  have hnd := abK_nodup l
  by_cases h : o.plate ∈ abK l
  · have hlt := kidx_lt.2 h
    have hlt2 : kidx (kt := (.pair (.int .i64) (.pair (.int .i64) (.int .i64)))) o.plate (abK l) < (abG l).length := by rw [hlen]; exact hlt
    have hk : kput (kt := (.pair (.int .i64) (.pair (.int .i64) (.int .i64)))) o.plate (abK l) = abK l := by unfold kput; rw [if_pos hlt]
    rw [abG_at h]
    unfold hset
    rw [if_pos hlt2, List.set_set]
    apply List.ext_getElem?
    intro i
    have hget := kidx_get h
    conv => rhs; unfold abG
    rw [abK_snoc, hk, List.getElem?_set, List.getElem?_map]
    by_cases hi : kidx (kt := (.pair (.int .i64) (.pair (.int .i64) (.int .i64)))) o.plate (abK l) = i
    · rw [if_pos hi, if_pos hlt2, ← hi, hget]
      simp
    · rw [if_neg hi]
      unfold abG
      rw [List.getElem?_map]
      cases hq : (abK l)[i]? with
      | none => rfl
      | some q =>
        have hne : ¬ o.plate = q := fun e => by
          subst e
          obtain ⟨h1, h2⟩ := List.getElem?_eq_some_iff.1 hq
          obtain ⟨h3, h4⟩ := List.getElem?_eq_some_iff.1 hget
          exact hi ((List.getElem_inj hnd).1 (h4.trans h2.symm))
        simp [hne]
  · have he := kidx_end h
    have hk : kput (kt := (.pair (.int .i64) (.pair (.int .i64) (.int .i64)))) o.plate (abK l) = abK l ++ [o.plate] := by
      unfold kput; rw [if_neg (fun q => h (kidx_lt.1 q))]
    rw [abG_end h, he]
    unfold hset
    rw [if_neg (by omega), List.nil_append, ← hlen, List.set_append_right _ _ (Nat.le_refl _), Nat.sub_self, List.set_cons_zero]
    have hf : l.filter (fun x => decide (x.plate = o.plate)) = [] := by
      rw [List.filter_eq_nil_iff]
      intro x hx hp
      exact h ((abK_mem _ _).2 ⟨x, hx, by simpa using hp⟩)
    have e1 : abG (l ++ [o]) = (abK l).map (fun k => (l ++ [o]).filter (fun o => decide (o.plate = k))) ++ [(l ++ [o]).filter (fun x => decide (x.plate = o.plate))] := by
      conv => lhs; unfold abG
      rw [abK_snoc, hk, List.map_append]; rfl
    have e2 : (abK l).map (fun k => (l ++ [o]).filter (fun o => decide (o.plate = k))) = abG l := by
      unfold abG
      refine List.map_congr_left fun k hk => ?_
      rw [List.filter_append]
      have : ¬ o.plate = k := fun e => h (e ▸ hk)
      simp [this]
    rw [e1, e2, List.filter_append, hf]
    simp
def con46 : Con := { ps := [.d false (.sl (.pair (.int .i64) (.pair (.int .i64) (.pair (.int .i64) (.pair (.int .i64) (.pair (.int .i64) (.pair (.pair (.int .i64) (.pair (.int .i64) (.int .i64))) (.pair (.int .i64) (.int .i64)))))))))], rs := [.mp (.pair (.int .i64) (.pair (.int .i64) (.int .i64))) (.sl (.pair (.int .i64) (.pair (.int .i64) (.pair (.int .i64) (.pair (.int .i64) (.pair (.int .i64) (.pair (.pair (.int .i64) (.pair (.int .i64) (.int .i64))) (.pair (.int .i64) (.int .i64))))))))) true false, .o 33 (.pair (.int .i64) (.pair (.int .i64) (.int .i64)))], pre := fun (x : List Opn × Unit) => x.1.length ≤ 1000000, out := fun (x : List Opn × Unit) => ((abK x.1).zip (abG x.1), sortBy pltC (abK x.1), ()), nw := id }
theorem c46 : CtrOk Try.prog 46 con46.ctr :=
  con_sound (G := ⟨[], [(69, con69.rctr)], [(8, 3), (19, 3), (41, 1)], []⟩) tab_ok (EnvOk.rcons c69 has69 EnvOk.nil) rfl Try.func46 rfl con46 2105021 (by kernel_rfl) (by decide) (by decide) rfl (by decide) rfl (by
    rintro ⟨(l : List Opn), _⟩ hpre hwf X hT hG hk hK
    have hl : l.length ≤ 1000000 := hpre
    (simp -implicitDefEqProofs only [go_sem, Prod.eta, Option.isSome_none, Option.isSome_some, Int.toNat_zero, Nat.reduceAdd, Nat.reduceMul, Nat.reduceSub, Nat.reduceEqDiff, Nat.reduceLT, Nat.reduceLeDiff, Nat.reduceShiftRight, Nat.reduceMod, Nat.reduceBEq, reduceCtorEq, reduceIte, reduceDIte, Int.reduceNeg, Bool.not_eq_true', Bool.not_eq_false', Bool.or_eq_true, Bool.or_eq_false_iff, Bool.and_eq_true, Bool.and_eq_false_iff, decide_eq_true_eq, decide_eq_false_iff_not, Classical.not_not, not_or, maxLen, con46, con69, hT, hG, hk, hK, Try.results46] at hwf ⊢); (try simp (disch := decide +kernel) only [drawn, true_and, and_true])
    intro _
    refine evk_loop ⟨{ i : Nat // i ≤ l.length }, 1000,
      fun i => [(4, .one (.map 66)), (5, .one (.row 68)), (9, .one (.sl (.pair (.int .i64) (.pair (.int .i64) (.pair (.int .i64) (.pair (.int .i64) (.pair (.int .i64) (.pair (.pair (.int .i64) (.pair (.int .i64) (.int .i64))) (.pair (.int .i64) (.int .i64)))))))) l false)), (10, .one (.int .i64 l.length)), (11, .one (.int .i64 i.1))],
      fun i => [(66, .mapg (.pair (.int .i64) (.pair (.int .i64) (.int .i64))) true 67 (abK (l.take i.1)) none), (67, .fam 37 (.pair (.int .i64) (.pair (.int .i64) (.pair (.int .i64) (.pair (.int .i64) (.pair (.int .i64) (.pair (.pair (.int .i64) (.pair (.int .i64) (.int .i64))) (.pair (.int .i64) (.int .i64)))))))) (abG (l.take i.1))), (68, .row 33 (.pair (.int .i64) (.pair (.int .i64) (.int .i64))) (abK (l.take i.1)))], fun i => l.length - i.1⟩ ⟨0, by simp⟩ ?_ ?_
    · simp only [go_sem, Prod.eta, Option.isSome_none, Option.isSome_some, Int.toNat_zero, Nat.reduceAdd, Nat.reduceMul, Nat.reduceSub, Nat.reduceEqDiff, Nat.reduceLT, Nat.reduceLeDiff, Nat.reduceShiftRight, Nat.reduceMod, Nat.reduceBEq, reduceCtorEq, reduceIte, reduceDIte, Int.reduceNeg]
      exact ⟨rfl, rfl, rfl, rfl⟩
    · rintro ⟨i, (hi : i ≤ l.length)⟩
      (simp -implicitDefEqProofs only [go_sem, Prod.eta, Option.isSome_none, Option.isSome_some, Int.toNat_zero, Nat.reduceAdd, Nat.reduceMul, Nat.reduceSub, Nat.reduceEqDiff, Nat.reduceLT, Nat.reduceLeDiff, Nat.reduceShiftRight, Nat.reduceMod, Nat.reduceBEq, reduceCtorEq, reduceIte, reduceDIte, Int.reduceNeg, Bool.not_eq_true', Bool.not_eq_false', Bool.or_eq_true, Bool.or_eq_false_iff, Bool.and_eq_true, Bool.and_eq_false_iff, decide_eq_true_eq, decide_eq_false_iff_not, Classical.not_not, not_or, maxLen, con46, con69, hT, hG, hk, hK, Try.results46, sortFCon]); (try simp (disch := decide +kernel) only [drawn, true_and, and_true])
      refine ⟨fun hlt => ?_, fun hge => ?_⟩
      · have hi' : i < l.length := by omega
        have ek : ∀ z, l.getD (i : Int).toNat z = l[i] := fun z => by simp [hi']
        have hp : l[i].2.2.2.2.2.1 = Opn.plate l[i] := rfl
        simp only [ek, hp]
        have hkl := abK_len (l.take i)
        rw [List.length_take] at hkl
        have hgl := abG_len (l.take i)
        have hsk : abK (l.take (i + 1)) = kput (kt := (.pair (.int .i64) (.pair (.int .i64) (.int .i64)))) (Opn.plate l[i]) (abK (l.take i)) := by rw [List.take_succ_eq_append_getElem hi', abK_snoc]
        have hsg := abG_snoc (l.take i) l[i]
        rw [← List.take_succ_eq_append_getElem hi'] at hsg
        have hin : kidx (kt := (.pair (.int .i64) (.pair (.int .i64) (.int .i64)))) (Opn.plate l[i]) (abK (l.take i)) < (kput (kt := (.pair (.int .i64) (.pair (.int .i64) (.int .i64)))) (Opn.plate l[i]) (abK (l.take i))).length := by
          unfold kput
          split
          · assumption
          · have := kidx_le (kt := (.pair (.int .i64) (.pair (.int .i64) (.int .i64)))) (Opn.plate l[i]) (abK (l.take i))
            simp; exact Nat.lt_succ_of_le this
        have hz := abG_zero (l := l.take i) (k := Opn.plate l[i])
        have hgd : ((abG (l.take i)).getD (kidx (kt := (.pair (.int .i64) (.pair (.int .i64) (.int .i64)))) (Opn.plate l[i]) (abK (l.take i))) []).length ≤ l.length := by
          by_cases hk : Opn.plate l[i] ∈ abK (l.take i)
          · rw [abG_at hk]
            refine Nat.le_trans (List.length_filter_le _ _) ?_
            rw [List.length_take]; omega
          · rw [abG_end hk]; exact Nat.zero_le _
        generalize hR : (abG (l.take i)).getD (kidx (kt := (.pair (.int .i64) (.pair (.int .i64) (.int .i64)))) (Opn.plate l[i]) (abK (l.take i))) [] = R at hz hsg hgd ⊢
        (repeat' (with_reducible (first | refine And.intro ?_ ?_ | intro _))) <;> (try (first | with_reducible (first | done | assumption | omega | contradiction) | decide))
        · have h : (R.length : Int) = 0 := by assumption
          have hR0 : R = [] := List.eq_nil_of_length_eq_zero (by omega)
          have hk2 : kput (kt := (.pair (.int .i64) (.pair (.int .i64) (.int .i64)))) (Opn.plate l[i]) (abK (l.take i)) = abK (l.take i) ++ [Opn.plate l[i]] := by
            unfold kput; rw [if_neg (fun q => hz.1 hR0 (kidx_lt.1 q))]
          refine fin_lp ⟨i + 1, by omega⟩ ?_ (by dsimp only; omega)
          simp only [go_sem, Prod.eta, Option.isSome_none, Option.isSome_some, Int.toNat_zero, Nat.reduceAdd, Nat.reduceMul, Nat.reduceSub, Nat.reduceEqDiff, Nat.reduceLT, Nat.reduceLeDiff, Nat.reduceShiftRight, Nat.reduceMod, Nat.reduceBEq, reduceCtorEq, reduceIte, reduceDIte, Int.reduceNeg]
          rw [hsk, hsg]
          refine ⟨?_, rfl, ?_, by omega⟩ <;> first | rfl | exact hk2.symm | exact hk2
        · have h : ¬ (R.length : Int) = 0 := by assumption
          have hk2 : kput (kt := (.pair (.int .i64) (.pair (.int .i64) (.int .i64)))) (Opn.plate l[i]) (abK (l.take i)) = abK (l.take i) := by
            have : Opn.plate l[i] ∈ abK (l.take i) := Classical.byContradiction fun q => h (by rw [hz.2 q]; rfl)
            unfold kput; rw [if_pos (kidx_lt.2 this)]
          refine fin_lp ⟨i + 1, by omega⟩ ?_ (by dsimp only; omega)
          simp only [go_sem, Prod.eta, Option.isSome_none, Option.isSome_some, Int.toNat_zero, Nat.reduceAdd, Nat.reduceMul, Nat.reduceSub, Nat.reduceEqDiff, Nat.reduceLT, Nat.reduceLeDiff, Nat.reduceShiftRight, Nat.reduceMod, Nat.reduceBEq, reduceCtorEq, reduceIte, reduceDIte, Int.reduceNeg]
          rw [hsk, hsg]
          refine ⟨?_, rfl, ?_, by omega⟩ <;> first | rfl | exact hk2.symm | exact hk2
      · rw [List.take_of_length_le (by omega)]
        have hkl := abK_len l
        (repeat' (with_reducible (first | refine And.intro ?_ ?_ | intro _))) <;> (try (first | with_reducible (first | done | assumption | omega | contradiction) | decide))
        · rename_i h
          exact sortBy_eq pltC_cmp h.1 h.2
        · rfl)
end Go.Proofs.Ythiddcobegnokaa
