/- The library's sorts, as contracts: a row is sorted in place. -/
import Derived.Test.YtdeihcabmpcaoaaGreatEvFun5ToBox
import Derived.Test.YtdeihcabmpcaoaaGreatEvSimp
import Derived.Shelf.SortM.Plain
import Derived.Shelf.SortM.SortNone
import Derived.Shelf.SlSortCmp.WholeK
import Derived.Shelf.SlSortCmp.NoneTotal
set_option linter.unusedSimpArgs false
set_option linter.unusedVariables false
namespace Go.Ev
open Go.Sort (putCells putRow mapBlock onCells grow Holds)

section
variable {cx : Cx} {σ : Nat → Value} {N : Nat → Prop} {m : Mem} {w : World} {P : Program}

theorem putCells_list (F cur : Array Value) (h : F.size ≤ cur.size) : (putCells id 0 F cur).toList = F.toList ++ cur.toList.drop F.size := by
 apply List.ext_getElem
 · simp [putCells]; omega
 · intro k h1 h2
   have hk : k < cur.size := by simpa [putCells] using h1
   simp only [putCells, Array.getElem_toList, Array.getElem_mapIdx, List.getElem_append, Array.length_toList, List.getElem_drop, Nat.zero_le, true_and, Nat.zero_add, Nat.sub_zero, id]
   split
   · rename_i hlt
     exact getElem!_pos F k hlt
   · rename_i hlt
     congr 1; omega

theorem putRow_map {α : Type} [Inhabited α] (enc : α → Value) (w : World) (g : Nat) (d : Array α) : putRow enc w g 0 d = putRow id w g 0 (d.map enc) := by
 unfold putRow
 refine Go.Sort.mapBlock_congr _ _ _ _ fun c _ _ _ => ?_
 apply Array.ext
 · simp [putCells]
 · intro k h1 h2
   simp only [putCells, Array.getElem_mapIdx, Array.size_map, Nat.sub_zero, id]
   split
   · rename_i hlt
     rw [getElem!_pos d k (by omega), getElem!_pos (d.map enc) k (by simp; omega)]
     simp
   · rfl

/-- The world behind a sort. -/
structure Sorted (w w' : World) (g : Nat) (e : TypeId) (cur : Array Value) (F : Array Value) : Prop where
 os : w'.os = w.os
 tape : w'.tape = w.tape
 output : w'.output = w.output
 size : w.heap.size ≤ w'.heap.size
 drawn : w.drawn ≤ w'.drawn
 block : ∀ b, b < w.heap.size → b ≠ g → w'.heap[b]? = w.heap[b]?
 row : ∃ cur' : Array Value, w'.heap[g]? = some (.cells cur' e (0, 0)) ∧ cur'.toList = F.toList ++ cur.toList.drop F.size

theorem sorted_world {g : Nat} {e : TypeId} {cur F : Array Value} (hg : w.heap[g]? = some (.cells cur e (0, 0))) (hF : F.size ≤ cur.size) (n : Nat) (os : Array Obj) : Sorted w (grow (putRow id (Go.Sort.ahead w n) g 0 F) os) g e cur F := by
 have hlt : g < w.heap.size := (Array.getElem?_eq_some_iff.1 hg).1
 refine ⟨rfl, rfl, rfl, by simp, by simp [grow, putRow, mapBlock, Go.Sort.ahead], fun b hb hne => ?_, putCells id 0 F cur, ?_, putCells_list F cur hF⟩
 · rw [Go.Sort.heap_grow_old _ _ (by simpa using hb)]
   simp [putRow, mapBlock, Go.Sort.ahead, Array.getElem?_modify, Ne.symm hne]
 · rw [Go.Sort.heap_grow_old _ _ (by simpa using hlt)]
   simp [putRow, mapBlock, Go.Sort.ahead, Array.getElem?_modify, hg, onCells]

/-- The state behind a sort. -/
theorem row_sorted (h : RepM cx σ N m w) {id : Nat} (hn : ¬ N id) {e : TypeId} {t : Ty} {xs : List t.den} (hm : m id = .row e t xs) {g cap : Nat} {cur : Array Value} (hσ : σ id = .slice (some ⟨g, 0, none⟩) xs.length cap) (hc : 0 < cap)
 (hg : w.heap[g]? = some (.cells cur e (0, 0))) (hlc : xs.length ≤ cap) (hcm : cap ≤ maxLen) (hcs : cur.size = cap * t.n) {xs' : List t.den} (hl : xs'.length = xs.length) {F : Array Value} (hF : roAll (ro w (Owned cx σ m) t) xs' F.toList) {w' : World} (hw : Sorted w w' g e cur F) (fr : Nat) (p : Prop) {q : Prop} (hq : q) :
 Res cx σ N m w fr ⟨p, .tup [], [(id, .row e t xs')], q⟩ (.tuple #[]) w' := by
 have hFl := roAll_len (fun x c => ro_len t x c) _ _ hF
 rw [Array.length_toList] at hFl
 obtain ⟨cur', hg', hcur'⟩ := hw.row
 obtain ⟨g1, g2⟩ := h.step (σ' := σ) (N' := Nx N fr) (m' := upd m id (.row e t xs')) (w' := w') (fun i => i = id) (fun _ k => k.1)
  (fun i k => by
    by_cases hi : i = id
    · subst hi; exact absurd k.1 hn
    · rw [upd_ne _ _ hi]; exact h.fresh i k.1)
  (fun i k => ⟨upd_ne _ _ k, rfl⟩) (fun _ _ => rfl)
  (fun b hb hx => hw.block b hb (fun e' => hx id rfl (by rw [hm]; rfl) (by rw [hσ, e']; exact .inl (blkOf_slice hc)))) ⟨hw.size, hw.drawn⟩ hw.os hw.tape hw.output
  (fun i b hi _ hb => .inr ⟨id, rfl, by rw [hm]; rfl, by rw [← hi]; exact hb⟩)
  (fun i i' b hi hi' _ _ _ _ => hi.trans hi'.symm) (fun i _ => h.hone i)
  (fun hk i hi => by
    subst hi
    rw [upd_same]
    have hfit : xs.length * t.n ≤ cap * t.n := Nat.mul_le_mul_right _ hlc
    refine ⟨xs'.length, F.toList, rfl, ?_, roAll_mono (ro_keep hk.k t) _ _ hF⟩
    simp only [rx]
    rw [hσ, ← hl]
    refine rowR_of (by rw [Array.length_toList, hFl]) hg' (by omega) hcm ?_ ?_
    · rw [← Array.length_toList, hcur']
      simp only [List.length_append, Array.length_toList, List.length_drop, hcs, hFl, hl]
      omega
    · rw [hcur', ← hFl, ← Array.length_toList]
      exact List.take_left)
 refine ⟨σ, g1, g2, ?_, hq⟩
 unfold repA
 exact ⟨[], rfl, by unfold repAs; rfl⟩

def sortI (xs : List Int) : List Int := xs.mergeSort fun x y => decide (x ≤ y)

theorem ro_ints {O : Nat → Prop} {k : IntKind} : ∀ (xs : List Int) (flat : List Value), roAll (ro w O (.int k)) xs flat → flat = xs.map (Value.int k) ∧ ∀ x ∈ xs, InR k x
 | [], flat, h => ⟨h, by simp⟩
 | x :: xs, _, ⟨c, d, e, h, hr⟩ => by
   obtain ⟨h1, h2⟩ := ro_ints xs d hr
   obtain ⟨g1, g2⟩ := h
   refine ⟨by rw [e, g1, h1]; rfl, fun y hy => ?_⟩
   rcases List.mem_cons.1 hy with rfl | hy
   · exact g2
   · exact h2 y hy
theorem ints_ro {O : Nat → Prop} {k : IntKind} : ∀ (xs : List Int), (∀ x ∈ xs, InR k x) → roAll (ro w O (.int k)) xs (xs.map (Value.int k))
 | [], _ => rfl
 | x :: xs, h => ⟨[.int k x], _, rfl, ⟨rfl, h x List.mem_cons_self⟩, ints_ro xs fun y hy => h y (List.mem_cons_of_mem _ hy)⟩

/-- slices.Sort at ints. -/
def sortCon (e : TypeId) : Con := { ps := [.o e (.int .i64)], rs := [], pre := fun x => x.1.length < 4611686018427387904, out := fun _ => (), nw := fun x => (sortI x.1, ()) }
theorem sort_int {ρ : Go.Shelf.Ren} (L : Go.Proofs.SlLaysM.n5 P ρ) (e : TypeId) : CtrOk P (ρ.f 5) (sortCon e).ctr := by
 intro D gv hDS cx hcd σ N m w fr avs vs h hfr hreps hp
 unfold Con.ctr Con.effO at hp ⊢
 cases hrd : rds m (sortCon e).ps avs with
 | none => rw [hrd] at hp; exact hp.elim
 | some x =>
   rw [hrd] at hp
   simp only at hp ⊢
   split at hp
   · rename_i hid
     rw [if_pos hid]
     obtain ⟨xs, u⟩ := x
     cases u
     match avs, hrd, hreps, hid with
     | [v], hrd, hreps, hid =>
       simp only [sortCon, rds] at hrd
       obtain ⟨h1, _⟩ := implP_some hrd
       obtain ⟨id, rfl, h2⟩ := rd_o h1
       have hm := rdRow_some h2
       unfold repAs at hreps
       obtain ⟨v0, r, rfl, h3, h4⟩ := hreps
       unfold repAs at h4
       subst h4
       unfold repA repC at h3
       obtain ⟨hn, rfl⟩ := h3
       simp only [rx] at hn ⊢
       have hsz : xs.length < 4611686018427387904 := hp
       have goal_eff : ∀ (w' : World), Res cx σ N m w fr ⟨xs.length < 4611686018427387904, .tup [], [(id, .row e (.int .i64) (sortI xs))], True⟩ (.tuple #[]) w' →
        ∃ v, Ending.returned (.tuple #[]) = .returned v ∧ Res cx σ N m w fr ((sortCon e).eff [.one (.row id)] m fr (xs, ())) v w' := fun w' hr => ⟨_, rfl, hr⟩
       have hb := h.blk id
       rw [hm] at hb
       obtain ⟨n', flat, rfl, k1, k2⟩ := hb
       simp only [rx] at k1 k2
       obtain ⟨hfl, hin⟩ := ro_ints xs flat k2
       rcases k1.2 with ⟨e2, a0, e1⟩ | ⟨g, cap, cur, hc, e1, hg, hlc, hcm, hcs, htk⟩
       · have hx : xs = [] := List.eq_nil_of_length_eq_zero e2
         subst hx
         rw [e1]
         refine (Go.Proofs.AnyM.slices_Sort_int_none L a0 0 w).mono ?_
         rintro e' w' ⟨rfl, rfl⟩
         refine goal_eff _ ?_
         have hs : sortI [] = [] := by simp [sortI]
         rw [hs]
         obtain ⟨g1, g2⟩ := h.weaken (N' := Nx N fr) (fun _ k => k.1)
         have hmm : updM m [(id, Blk.row e (.int .i64) [])] = m := same_row hm
         refine ⟨σ, ?_, ?_, ?_, trivial⟩ <;> simp only [hmm]
         · exact g1
         · exact g2
         · unfold repA; exact ⟨[], rfl, by unfold repAs; rfl⟩
       · have hcz : flat.length = xs.length * 1 := k1.1
         have hH : Holds (Value.int .i64) w g 0 xs.toArray := by
          intro j hj
          have hj' : j < xs.length := by simpa using hj
          rw [Nat.zero_add]
          refine ⟨?_, by simp [World.frozen?, hg]⟩
          refine rowR_cells k1 (g := g) (by rw [e1]; exact blkOf_slice hc) j _ ?_
          rw [hfl, List.getElem?_map, List.getElem?_eq_getElem hj', getElem!_pos xs.toArray j hj]
          rfl
         have hlt : g < w.heap.size := (Array.getElem?_eq_some_iff.1 hg).1
         rw [e1]
         refine (Go.Proofs.AnyM.slices_Sort_int L g 0 cap xs w hH hlt hsz).mono ?_
         rintro e' w' ⟨rfl, n, os, rfl⟩
         refine goal_eff _ ?_
         rw [putRow_map]
         have hl : (sortI xs).length = xs.length := List.length_mergeSort xs
         refine row_sorted h hn hm e1 hc hg hlc hcm hcs hl ?_ (sorted_world hg ?_ n os) fr _ trivial
         · have : ((sortI xs).toArray.map (Value.int .i64)).toList = (sortI xs).map (Value.int .i64) := by simp
           rw [show (List.mergeSort xs fun x y => decide (x ≤ y)) = sortI xs from rfl, this]
           exact ints_ro _ fun x hx => hin x ((List.mergeSort_perm xs _).mem_iff.1 hx)
         · have h9 : cap * 1 = cur.size := hcs.symm
           simp only [List.map_toArray, List.size_toArray, List.length_map, List.length_mergeSort]
           omega
     | [], hrd, _, _ => simp [sortCon, rds] at hrd
     | _ :: _ :: _, hrd, _, _ => 
       simp only [sortCon, rds] at hrd
       obtain ⟨_, h2⟩ := implP_some hrd
       cases h2
   · exact hp.elim

end
end Go.Ev

/- The library's sort by a function, as a contract: the row is permuted, and no later element is less than an earlier one. -/
set_option linter.unusedSimpArgs false
set_option linter.unusedVariables false
namespace Go.Ev
open Go.Sort (putCells putRow mapBlock onCells grow Holds flatK HoldsK putRowK SWO PermIn SortedIn)
open Go.Proofs (CmpLays ltOf sortWorldK)

section
variable {cx : Cx} {σ : Nat → Value} {N : Nat → Prop} {m : Mem} {w : World} {P : Program}

/-- An element with its cells. -/
abbrev El (w : World) (O : Nat → Prop) (t : Ty) := { p : t.den × List Value // ro w O t p.1 p.2 }
def El.enc {O : Nat → Prop} {t : Ty} (p : El w O t) : List Value := p.1.2

theorem roAll_els {O : Nat → Prop} {t : Ty} : ∀ (xs : List t.den) (flat : List Value), roAll (ro w O t) xs flat → ∃ d : List (El w O t), d.map (fun p => p.1.1) = xs ∧ d.flatMap El.enc = flat
 | [], flat, h => ⟨[], rfl, by rw [show flat = [] from h]; rfl⟩
 | x :: xs, _, ⟨c, r, e, h, hr⟩ => by
   obtain ⟨d, h1, h2⟩ := roAll_els xs r hr
   exact ⟨⟨(x, c), h⟩ :: d, by simp [h1], by rw [e, List.flatMap_cons, h2]; rfl⟩
theorem els_roAll {O : Nat → Prop} {t : Ty} : ∀ (d : List (El w O t)), roAll (ro w O t) (d.map (fun p => p.1.1)) (d.flatMap El.enc)
 | [] => rfl
 | p :: d => ⟨p.1.2, _, rfl, p.2, els_roAll d⟩

theorem flatMap_get {α : Type} (enc : α → List Value) (k : Nat) (hk0 : 0 < k) (hk : ∀ x, (enc x).length = k) : ∀ (d : List α) (t : Nat), (d.flatMap enc)[t]? = (d[t / k]?).bind (fun x => (enc x)[t % k]?)
 | [], t => by simp
 | x :: d, t => by
   rw [List.flatMap_cons]
   by_cases h : t < k
   · rw [List.getElem?_append_left (by rw [hk]; exact h), Nat.div_eq_of_lt h, Nat.mod_eq_of_lt h]
     rfl
   · obtain ⟨s, rfl⟩ : ∃ s, t = s + k := ⟨t - k, by omega⟩
     rw [List.getElem?_append_right (by rw [hk]; omega), hk, Nat.add_sub_cancel, flatMap_get enc k hk0 hk d s, Nat.add_div_right _ hk0, Nat.add_mod_right]
     rfl

theorem flatK_list {α : Type} [Inhabited α] (enc : α → List Value) (k : Nat) (hk0 : 0 < k) (hk : ∀ x, (enc x).length = k) (d : Array α) : (flatK enc k d).toList = d.toList.flatMap enc := by
 apply List.ext_getElem?
 intro t
 rw [flatMap_get enc k hk0 hk]
 by_cases h : t < d.size * k
 · have h1 : t / k < d.size := Nat.div_lt_of_lt_mul (by rw [Nat.mul_comm]; exact h)
   have h2 : t % k < k := Nat.mod_lt _ hk0
   have h3 : t < (flatK enc k d).toList.length := by simpa using h
   rw [List.getElem?_eq_getElem h3, Array.getElem_toList, ← getElem!_pos (flatK enc k d) t (by simpa using h), Go.Sort.get_flatK _ _ _ _ h]
   rw [List.getElem?_eq_getElem (by simpa using h1), Option.bind_some, Array.getElem_toList, getElem!_pos d _ h1, List.getElem?_eq_getElem (by rw [hk]; exact h2), getElem!_pos _ _ (by rw [hk]; exact h2)]
 · rw [List.getElem?_eq_none (by simp; omega)]
   have : d.size ≤ t / k := (Nat.le_div_iff_mul_le hk0).2 (by omega)
   rw [List.getElem?_eq_none (by simpa using this)]
   rfl

theorem callFunc_enter {g : FuncId} (h : FnHas P g) (args : Array Value) (w : World) : (callFunc g args).run P w = .ok (.enter g args) w := by
 obtain ⟨fn, hfn, hname, hbody⟩ := h
 have hname' : fn.name ≠ "runtime.NumGoroutine" := by simpa using hname
 have hbody' : fn.body ≠ none := by intro hh; rw [hh] at hbody; cases hbody
 simp [callFunc, hfn, hname', hbody']

/-- A world that has only grown. -/
theorem grown_eq {W w' : World} (h1 : w'.os = W.os) (h2 : w'.tape = W.tape) (h3 : w'.output = W.output) (h4 : W.drawn ≤ w'.drawn) (h5 : W.heap.size ≤ w'.heap.size) (h6 : ∀ b, b < W.heap.size → w'.heap[b]? = W.heap[b]?) : ∃ q os', w' = grow (W.drewN q) os' := by
 refine ⟨w'.drawn - W.drawn, w'.heap.extract W.heap.size w'.heap.size, ?_⟩
 have e1 : w'.heap = W.heap ++ w'.heap.extract W.heap.size w'.heap.size := by
  apply Array.ext_getElem?
  intro i
  by_cases hi : i < W.heap.size
  · rw [Array.getElem?_append_left hi]; exact h6 i hi
  · rw [Array.getElem?_append_right (by omega), Array.getElem?_extract]
    by_cases hi2 : i < w'.heap.size
    · rw [if_pos (by omega)]; congr 1; omega
    · rw [if_neg (by omega), Array.getElem?_eq_none (by omega)]
 have e2 : w'.drawn = W.drawn + (w'.drawn - W.drawn) := by omega
 obtain ⟨a, b, c, d, e⟩ := W
 obtain ⟨a', b', c', d', e'⟩ := w'
 simp only at h1 h2 h3 e1 e2
 subst h1 h2 h3
 simp only [grow, World.drewN, ← e1, ← e2]

/-- A comparison of two elements. -/
def cmpCon (t : Ty) (c : t.den → t.den → Int) : Con := { ps := [.d true t, .d true t], rs := [.d false (.int .i64)], pre := fun _ => True, out := fun x => (c x.1 x.2.1, ()), nw := id }

theorem impl_self (m : Mem) : ∀ (t : Ty) (y : t.den), impl m t (expl t y) = some y
 | .int k, n => by simp [impl, expl, implI]
 | .bool, b => rfl
 | .str, s => rfl
 | .unit, _ => rfl
 | .sl t, xs => by simp [impl, expl, implL, view, castTy]
 | .pair a b, p => by
   have h1 : (expl a p.1 ++ expl b p.2).take a.n = expl a p.1 := by rw [← expl_len a p.1]; exact List.take_left
   have h2 : (expl a p.1 ++ expl b p.2).drop a.n = expl b p.2 := by rw [← expl_len a p.1]; exact List.drop_left
   show implP (impl m a ((expl a p.1 ++ expl b p.2).take a.n)) (impl m b ((expl a p.1 ++ expl b p.2).drop a.n)) = some p
   rw [h1, h2, impl_self m a, impl_self m b]
   rfl
theorem cmp_lays (h : RepM cx σ N m w) {t : Ty} {c : t.den → t.den → Int} {g : FuncId} (hS : StrictP P) (hc : CtrOk P g (cmpCon t c).ctr) [Inhabited (El w (Owned cx σ m) t)] {blk : Nat} (hown : Owned cx σ m blk) (hb : blk < w.heap.size) (size : Nat) :
 CmpLays P g #[] (El.enc (w := w) (O := Owned cx σ m) (t := t)) t.n (fun x y => c x.1.1 y.1.1) blk 0 size w := by
 intro q os dk hdk x y
 generalize hW : sortWorldK El.enc t.n w blk 0 q dk os = W
 have w1 : W.heap.size = w.heap.size + os.size := by rw [← hW]; simp [sortWorldK, putRowK, Go.Sort.ahead]
 have w2 : ∀ b, b < w.heap.size → b ≠ blk → W.heap[b]? = w.heap[b]? := fun b hb' hne => by
  rw [← hW]
  unfold sortWorldK
  rw [Go.Sort.heap_grow_old _ _ (by simpa [putRowK, Go.Sort.ahead] using hb')]
  simp [putRowK, putRow, mapBlock, Go.Sort.ahead, Array.getElem?_modify, Ne.symm hne]
 let cx' : Cx := ⟨W, Owned cx σ m, fun _ => False, 0, fun _ => .bool false, [], fun _ => none, True, []⟩
 have olt : ∀ b, Owned cx σ m b → b < w.heap.size := by
  rintro b (hb | ⟨id, h1, h2⟩)
  · exact h.hF b hb
  · exact repB_lt (h.blk id) h1 b h2
 have hM : RepM cx' (fun _ => .bool false) (fun _ => True) (fun _ => .dead) W :=
  ⟨fun _ => trivial, fun _ _ => rfl, fun _ _ _ ho => (by cases ho), fun _ _ ho => (by cases ho), fun _ _ ho => (by cases ho), ⟨rfl, rfl, rfl, fun _ => Nat.le_refl _, Nat.le_refl _, fun _ _ _ => rfl⟩,
    fun b hb' => by have := olt b hb'; omega, fun _ => rfl, (fun i hi => by cases hi), (fun _ hD => by cases hD), fun _ _ h => by cases h⟩
 have hK : Keep w W (Owned cx σ m) (Owned cx' (fun _ => .bool false) (fun _ => .dead)) := (.ex fun b hb' hno => ⟨by
  rintro (h1 | ⟨id, h1, _⟩)
  · exact hno h1
  · (cases h1), w2 b hb' (fun e => hno (e ▸ hown))⟩)
 have hx := expl_rep (x := rx cx' (fun _ => .bool false) (fun _ => True) (fun _ => .dead) W) t x.1.1 x.1.2 (ro_keep hK t _ _ x.2)
 have hy := expl_rep (x := rx cx' (fun _ => .bool false) (fun _ => True) (fun _ => .dead) W) t y.1.1 y.1.2 (ro_keep hK t _ _ y.2)
 have hrd : rds (fun _ => .dead) (cmpCon t c).ps [.agg (expl t x.1.1), .agg (expl t y.1.1)] = some (x.1.1, y.1.1, ()) := by
  simp only [cmpCon, rds, rd, impl_self, implP]
 have heff : (cmpCon t c).ctr [.agg (expl t x.1.1), .agg (expl t y.1.1)] (fun _ => .dead) 0 = (cmpCon t c).eff [.agg (expl t x.1.1), .agg (expl t y.1.1)] (fun _ => .dead) 0 (x.1.1, y.1.1, ()) := by
  unfold Con.ctr Con.effO
  rw [hrd]
  simp only
  rw [if_pos]
  simp [okIds, cmpCon, pids, pid]
 have hcall := hc True [] (fun _ => hS) cx' ⟨rfl, rfl⟩ (fun _ => .bool false) (fun _ => True) (fun _ => .dead) W 0 [.agg (expl t x.1.1), .agg (expl t y.1.1)] [.agg x.1.2.toArray, .agg y.1.2.toArray] hM (fun _ _ _ => trivial)
  (by
    unfold repAs
    refine ⟨_, _, rfl, by unfold repA; exact ⟨_, rfl, hx⟩, ?_⟩
    unfold repAs
    refine ⟨_, _, rfl, by unfold repA; exact ⟨_, rfl, hy⟩, ?_⟩
    unfold repAs; rfl) (by rw [heff]; trivial)
 rw [heff] at hcall
 refine hcall.mono ?_
 rintro e w' ⟨v, rfl, σ', h1, _, h3, _⟩
 have h3' : v = .int .i64 (c x.1.1 y.1.1) := by
  simp only [Con.eff, cmpCon, ravs, rav, avOf, expl, pack, Bool.false_eq_true, if_false] at h3
  exact (of_int h3).1
 have ev := h1.evo
 refine ⟨by rw [h3'], ?_⟩
 exact grown_eq ev.os ev.tape ev.output (ev.drawn trivial) ev.size (fun b hb' => ev.block b hb' (fun hf => hf))

/-- slices.SortFunc. -/
def sortFCon (e : TypeId) (t : Ty) (g : FuncId) (c : t.den → t.den → Int) : RCon := { ps := [.o e t, .cl g []], rs := [], pre := fun x => x.1.length < 4611686018427387904, rel := fun x _ z => z.1.Perm x.1 ∧ z.1.Pairwise (fun a b => ¬ c b a < 0) }

theorem sort_func {ρ : Go.Shelf.Ren} (L : Go.Proofs.SlLaysF0.n6 P ρ) {e : TypeId} {t : Ty} (hpos : 0 < t.n) (aE : ∀ w, (isAgg (ρ.t 24)).run P w = .ok true w) (zE : ∀ w, (Go.sizeOf (ρ.t 24)).run P w = .ok t.n w)
 {g : FuncId} {c : t.den → t.den → Int} (hS : StrictP P) (hc : CtrOk P g (cmpCon t c).ctr) (hg : FnHas P g) (hO : SWO (fun x y => decide (c x y < 0))) : RCtrOk P (ρ.f 6) (sortFCon e t g c).rctr := by
 intro D gv hDS cx hcd σ N m w fr avs vs h hfr hreps hp
 unfold RCon.rctr RCon.chcO at hp ⊢
 cases hrd : rds m (sortFCon e t g c).ps avs with
 | none => rw [hrd] at hp; exact hp.elim
 | some x =>
   rw [hrd] at hp
   simp only at hp ⊢
   split at hp
   · rename_i hid
     rw [if_pos hid]
     obtain ⟨xs, u, u'⟩ := x
     cases u; cases u'
     match avs, hrd, hreps, hid with
     | [v, f], hrd, hreps, hid =>
       simp only [sortFCon, rds] at hrd
       obtain ⟨h1, hr2⟩ := implP_some hrd
       obtain ⟨hf1, _⟩ := implP_some hr2
       obtain ⟨id, rfl, h2⟩ := rd_o h1
       obtain ⟨caps, rfl, hcp⟩ := rd_cl hf1
       have hcaps : caps = [] := by
        cases caps with
        | nil => rfl
        | cons _ _ => simp [rdCaps] at hcp
       subst hcaps
       have hm := rdRow_some h2
       unfold repAs at hreps
       obtain ⟨v0, r, rfl, h3, h4⟩ := hreps
       unfold repAs at h4
       obtain ⟨v1, r1, rfl, h5, h6⟩ := h4
       unfold repAs at h6
       subst h6
       unfold repA repC at h3 h5
       obtain ⟨hn, rfl⟩ := h3
       obtain ⟨ws, rfl, h7⟩ := h5
       rw [repCs_nil] at h7
       subst h7
       simp only [rx] at hn ⊢
       have hsz : xs.length < 4611686018427387904 := hp
       have goal_eff : ∀ (w' : World) (ys : List t.den), ys.Perm xs → ys.Pairwise (fun a b => ¬ c b a < 0) → Res cx σ N m w fr ⟨xs.length < 4611686018427387904, .tup [], [(id, .row e t ys)], True⟩ (.tuple #[]) w' →
        ∃ v, Ending.returned (.tuple #[]) = .returned v ∧ ∃ a, Res cx σ N m w fr ⟨((sortFCon e t g c).chc [.one (.row id), .one (.fn g [])] m fr (xs, (), ())).pre, ((sortFCon e t g c).chc [.one (.row id), .one (.fn g [])] m fr (xs, (), ())).r a,
          ((sortFCon e t g c).chc [.one (.row id), .one (.fn g [])] m fr (xs, (), ())).u a, ((sortFCon e t g c).chc [.one (.row id), .one (.fn g [])] m fr (xs, (), ())).asm a⟩ v w' := by
        rintro w' ys hys1 hys2 ⟨σ', r1, r2, r3, _⟩
        refine ⟨_, rfl, ((), (ys, (), ())), σ', ?_, ?_, r3, ⟨hys1, hys2⟩, trivial⟩
        · have : (((sortFCon e t g c).chc [.one (.row id), .one (.fn g [])] m fr (xs, (), ())).u ((), (ys, (), ()))) = [(id, .row e t ys)] := by
           simp [RCon.chc, sortFCon, updC, rws, rw1, pupd, pid, nbl, pbl, capIds, capBlks, rheap, capRows]
          rw [this]; exact r1
        · have : (((sortFCon e t g c).chc [.one (.row id), .one (.fn g [])] m fr (xs, (), ())).u ((), (ys, (), ()))) = [(id, .row e t ys)] := by
           simp [RCon.chc, sortFCon, updC, rws, rw1, pupd, pid, nbl, pbl, capIds, capBlks, rheap, capRows]
          rw [this]; exact r2
       have hb := h.blk id
       rw [hm] at hb
       obtain ⟨n', flat, rfl, k1, k2⟩ := hb
       simp only [rx] at k1 k2
       have none_case : xs = [] → ∀ a0 cap0, σ id = .slice a0 0 cap0 → Calls P (ρ.f 6) #[σ id, .func (.func g) #[] #[]] w fun e_1 w' => ∃ v, e_1 = .returned v ∧ ∃ a, Res cx σ N m w fr ⟨((sortFCon e t g c).chc [.one (.row id), .one (.fn g [])] m fr (xs, (), ())).pre, ((sortFCon e t g c).chc [.one (.row id), .one (.fn g [])] m fr (xs, (), ())).r a,
        ((sortFCon e t g c).chc [.one (.row id), .one (.fn g [])] m fr (xs, (), ())).u a, ((sortFCon e t g c).chc [.one (.row id), .one (.fn g [])] m fr (xs, (), ())).asm a⟩ v w' := by
        intro hx a0 cap0 e1
        subst hx
        rw [e1]
        refine (Go.Proofs.AnyF.slices_SortFunc_none L a0 cap0 _ w).mono ?_
        rintro e' w' ⟨rfl, rfl⟩
        refine goal_eff _ [] (List.Perm.refl _) List.Pairwise.nil ?_
        obtain ⟨g1, g2⟩ := h.weaken (N' := Nx N fr) (fun _ k => k.1)
        have hmm : updM m [(id, Blk.row e t [])] = m := same_row hm
        refine ⟨σ, ?_, ?_, ?_, trivial⟩ <;> simp only [hmm]
        · exact g1
        · exact g2
        · unfold repA; exact ⟨[], rfl, by unfold repAs; rfl⟩
       rcases k1.2 with ⟨e2, a0, e1⟩ | ⟨g0, cap, cur, hcp0, e1, hg0, hlc, hcm, hcs, htk⟩
       · exact none_case (List.eq_nil_of_length_eq_zero e2) a0 0 e1
       · by_cases hx0 : xs = []
         · exact none_case hx0 _ cap (by rw [e1, hx0]; rfl)
         · obtain ⟨d, hd1, hd2⟩ := roAll_els xs flat k2
           have hdn : d ≠ [] := by rintro rfl; exact hx0 hd1.symm
           letI : Inhabited (El w (Owned cx σ m) t) := ⟨d.head hdn⟩
           have hdl : d.length = xs.length := by rw [← hd1, List.length_map]
           have hk : ∀ x : El w (Owned cx σ m) t, (El.enc x).length = t.n := fun x => ro_len t _ _ x.2
           have ho1 : ∀ x : El w (Owned cx σ m) t, ∀ v ∈ El.enc x, v.oneCell' = true := fun x => ro_one t _ _ x.2
           have hFl := flatK_list El.enc t.n hpos hk d.toArray
           rw [List.toList_toArray, hd2] at hFl
           have hlt : g0 < w.heap.size := (Array.getElem?_eq_some_iff.1 hg0).1
           have hH : HoldsK El.enc t.n w g0 0 d.toArray := by
            intro j hj
            rw [Nat.zero_add]
            refine ⟨rowR_cells k1 (g := g0) (by rw [e1]; exact blkOf_slice hcp0) j _ ?_, by simp [World.frozen?, hg0]⟩
            rw [← hFl, Array.getElem?_toList, Array.getElem?_eq_getElem hj, getElem!_pos _ j hj]
            rfl
           have hown : Owned cx σ m g0 := .inr ⟨id, by rw [hm]; rfl, by rw [e1]; exact .inl (blkOf_slice hcp0)⟩
           have hO' : SWO (ltOf fun x y : El w (Owned cx σ m) t => c x.1.1 y.1.1) := ⟨fun x => hO.irrefl x.1.1, fun x y z => hO.trans x.1.1 y.1.1 z.1.1, fun x y z => hO.ntrans x.1.1 y.1.1 z.1.1⟩
           have hcall := Go.Proofs.AnyQ.slices_SortFunc L t.n aE zE El.enc hk ho1 (fun x y : El w (Owned cx σ m) t => c x.1.1 y.1.1) hO' g #[] g0 0 cap d.toArray w (callFunc_enter hg) (cmp_lays h hS hc hown hlt _) hH hlt (by simpa [hdl] using hsz)
           rw [e1, ← hdl]
           simp only [List.size_toArray] at hcall
           refine hcall.mono ?_
           rintro e' w' ⟨rfl, d', n, os, hperm, hsort, rfl⟩
           obtain ⟨hps, _, hpp⟩ := hperm
           simp only [List.size_toArray] at hps hpp
           have hpp' : d'.toList.Perm d := by
            have e1 : d'.extract 0 d.length = d' := by rw [← hps]; exact Array.extract_size
            have e2 : d.toArray.extract 0 d.length = d.toArray := by
             have := Array.extract_size (xs := d.toArray)
             simp
            rw [e1, e2] at hpp
            simpa using hpp
           have hl' : (d'.toList.map (fun p => p.1.1)).length = xs.length := by simp [hps, hdl]
           refine goal_eff _ (d'.toList.map (fun p => p.1.1)) (by rw [← hd1]; exact hpp'.map _) ?_ ?_
           · rw [List.pairwise_map, List.pairwise_iff_getElem]
             intro i j hi hj hij
             have := hsort i j (Nat.zero_le _) hij (by simpa [hps] using hj)
             rw [getElem!_pos d' i (by simpa using hi), getElem!_pos d' j (by simpa using hj)] at this
             simp only [ltOf, decide_eq_false_iff_not] at this
             simpa using this
           · refine row_sorted h hn hm e1 hcp0 hg0 hlc hcm hcs hl' ?_ (sorted_world hg0 ?_ n os) fr _ trivial
             · rw [flatK_list El.enc t.n hpos hk]
               exact els_roAll d'.toList
             · rw [Go.Sort.size_flatK, hps, hdl, hcs]
               exact Nat.mul_le_mul_right _ hlc
     | [], hrd, _, _ => simp [sortFCon, rds] at hrd
     | [_], hrd, _, _ =>
       simp only [sortFCon, rds] at hrd
       obtain ⟨_, h2⟩ := implP_some hrd
       cases h2
     | _ :: _ :: _ :: _, hrd, _, _ =>
       simp only [sortFCon, rds] at hrd
       obtain ⟨_, h2⟩ := implP_some hrd
       obtain ⟨_, h3⟩ := implP_some h2
       cases h3
   · exact hp.elim

end
end Go.Ev
