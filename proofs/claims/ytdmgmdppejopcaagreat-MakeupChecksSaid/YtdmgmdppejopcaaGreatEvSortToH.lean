/- The library's sorts, as contracts: a row is sorted in place. -/
import Derived.Test.YtdmgmdppejopcaaGreatEvFun5
import Derived.Shelf.SortM.Plain
import Derived.Shelf.SortM.SortNone
import Derived.Shelf.SlSortCmp.WholeK
import Derived.Shelf.SlSortCmp.NoneTotal
import Derived.Test.YtdmgmdppejopcaaGreatMpG
import Derived.Test.YtdmgmdppejopcaaGreatMpLay
set_option linter.unusedSimpArgs false
set_option linter.unusedVariables false
namespace Go.Ev
open Go.Sort (putCells putRow mapBlock onCells grow Holds)

section
variable {cx : Cx} {σ : Nat → Value} {N : Nat → Prop} {m : Mem} {w : World} {P : Program}

theorem putCells_list (F cur : Array Value) (h : F.size ≤ cur.size) : (putCells id 0 F cur).toList = F.toList ++ cur.toList.drop F.size := by
  apply List.ext_getElem
  · simp [putCells]; omega
  · intro k h1 h2
    have hk : k < cur.size := by simpa [putCells] using h1
    simp only [putCells, Array.getElem_toList, Array.getElem_mapIdx, List.getElem_append, Array.length_toList, List.getElem_drop, Nat.zero_le, true_and, Nat.zero_add, Nat.sub_zero, id]
    split
    · rename_i hlt
      exact getElem!_pos F k hlt
    · rename_i hlt
      congr 1; omega

theorem putRow_map {α : Type} [Inhabited α] (enc : α → Value) (w : World) (g : Nat) (d : Array α) : putRow enc w g 0 d = putRow id w g 0 (d.map enc) := by
  unfold putRow
  refine Go.Sort.mapBlock_congr _ _ _ _ fun c _ _ _ => ?_
  apply Array.ext
  · simp [putCells]
  · intro k h1 h2
    simp only [putCells, Array.getElem_mapIdx, Array.size_map, Nat.sub_zero, id]
    split
    · rename_i hlt
      rw [getElem!_pos d k (by omega), getElem!_pos (d.map enc) k (by simp; omega)]
      simp
    · rfl

/-- The world behind a sort. -/
structure Sorted (w w' : World) (g : Nat) (e : TypeId) (cur : Array Value) (F : Array Value) : Prop where
  os : w'.os = w.os
  tape : w'.tape = w.tape
  output : w'.output = w.output
  size : w.heap.size ≤ w'.heap.size
  drawn : w.drawn ≤ w'.drawn
  block : ∀ b, b < w.heap.size → b ≠ g → w'.heap[b]? = w.heap[b]?
  row : ∃ cur' : Array Value, w'.heap[g]? = some (.cells cur' e (0, 0)) ∧ cur'.toList = F.toList ++ cur.toList.drop F.size

theorem sorted_world {g : Nat} {e : TypeId} {cur F : Array Value} (hg : w.heap[g]? = some (.cells cur e (0, 0))) (hF : F.size ≤ cur.size) (n : Nat) (os : Array Obj) : Sorted w (grow (putRow id (Go.Sort.ahead w n) g 0 F) os) g e cur F := by
  have hlt : g < w.heap.size := (Array.getElem?_eq_some_iff.1 hg).1
  refine ⟨rfl, rfl, rfl, by simp, by simp [grow, putRow, mapBlock, Go.Sort.ahead], fun b hb hne => ?_, putCells id 0 F cur, ?_, putCells_list F cur hF⟩
  · rw [Go.Sort.heap_grow_old _ _ (by simpa using hb)]
    simp [putRow, mapBlock, Go.Sort.ahead, Array.getElem?_modify, Ne.symm hne]
  · rw [Go.Sort.heap_grow_old _ _ (by simpa using hlt)]
    simp [putRow, mapBlock, Go.Sort.ahead, Array.getElem?_modify, hg, onCells]

/-- The state behind a sort. -/
theorem row_sorted (h : RepM cx σ N m w) {id : Nat} (hn : ¬ N id) {e : TypeId} {t : Ty} {xs : List t.den} (hm : m id = .row e t xs) {g cap : Nat} {cur : Array Value} (hσ : σ id = .slice (some ⟨g, 0, none⟩) xs.length cap) (hc : 0 < cap)
    (hg : w.heap[g]? = some (.cells cur e (0, 0))) (hlc : xs.length ≤ cap) (hcm : cap ≤ maxLen) (hcs : cur.size = cap * t.n) {xs' : List t.den} (hl : xs'.length = xs.length) {F : Array Value} (hF : roAll (ro w (Owned cx σ m) t) xs' F.toList) {w' : World} (hw : Sorted w w' g e cur F) (fr : Nat) (p : Prop) {q : Prop} (hq : q) :
    Res cx σ N m w fr ⟨p, .tup [], [(id, .row e t xs')], q⟩ (.tuple #[]) w' := by
  have hFl := roAll_len (fun x c => ro_len t x c) _ _ hF
  rw [Array.length_toList] at hFl
  obtain ⟨cur', hg', hcur'⟩ := hw.row
  obtain ⟨g1, g2⟩ := h.step (σ' := σ) (N' := Nx N fr) (m' := upd m id (.row e t xs')) (w' := w') (fun i => i = id) (fun _ k => k.1)
    (fun i k => by
      by_cases hi : i = id
      · subst hi; exact absurd k.1 hn
      · rw [upd_ne _ _ hi]; exact h.fresh i k.1)
    (fun i k => ⟨upd_ne _ _ k, rfl⟩) (fun _ _ => rfl)
    (fun b hb hx => hw.block b hb (fun e' => hx id rfl (by rw [hm]; rfl) (by rw [hσ, e']; exact blkOf_slice hc))) ⟨hw.size, hw.drawn⟩ hw.os hw.tape hw.output
    (fun i b hi _ hb => .inr ⟨id, rfl, by rw [hm]; rfl, by rw [← hb, hi]⟩)
    (fun i i' b hi hi' _ _ _ _ => hi.trans hi'.symm) (fun i _ => h.hone i)
    (fun hk i hi => by
      subst hi
      rw [upd_same]
      have hfit : xs.length * t.n ≤ cap * t.n := Nat.mul_le_mul_right _ hlc
      refine ⟨xs'.length, F.toList, rfl, ?_, roAll_mono (ro_keep hk.k t) _ _ hF⟩
      simp only [rx]
      rw [hσ, ← hl]
      refine rowR_of (by rw [Array.length_toList, hFl]) hg' (by omega) hcm ?_ ?_
      · rw [← Array.length_toList, hcur']
        simp only [List.length_append, Array.length_toList, List.length_drop, hcs, hFl, hl]
        omega
      · rw [hcur', ← hFl, ← Array.length_toList]
        exact List.take_left)
  refine ⟨σ, g1, g2, ?_, hq⟩
  unfold repA
  exact ⟨[], rfl, by unfold repAs; rfl⟩

def sortI (xs : List Int) : List Int := xs.mergeSort fun x y => decide (x ≤ y)

theorem ro_ints {O : Nat → Prop} {k : IntKind} : ∀ (xs : List Int) (flat : List Value), roAll (ro w O (.int k)) xs flat → flat = xs.map (Value.int k) ∧ ∀ x ∈ xs, InR k x
  | [], flat, h => ⟨h, by simp⟩
  | x :: xs, _, ⟨c, d, e, h, hr⟩ => by
    obtain ⟨h1, h2⟩ := ro_ints xs d hr
    obtain ⟨g1, g2⟩ := h
    refine ⟨by rw [e, g1, h1]; rfl, fun y hy => ?_⟩
    rcases List.mem_cons.1 hy with rfl | hy
    · exact g2
    · exact h2 y hy
theorem ints_ro {O : Nat → Prop} {k : IntKind} : ∀ (xs : List Int), (∀ x ∈ xs, InR k x) → roAll (ro w O (.int k)) xs (xs.map (Value.int k))
  | [], _ => rfl
  | x :: xs, h => ⟨[.int k x], _, rfl, ⟨rfl, h x List.mem_cons_self⟩, ints_ro xs fun y hy => h y (List.mem_cons_of_mem _ hy)⟩

/-- slices.Sort at ints. -/
def sortCon (e : TypeId) : Con := { ps := [.o e (.int .i64)], rs := [], pre := fun x => x.1.length < 4611686018427387904, out := fun _ => (), nw := fun x => (sortI x.1, ()) }
theorem sort_int {ρ : Go.Shelf.Ren} (L : Go.Proofs.SlLaysM.n5 P ρ) (e : TypeId) : CtrOk P (ρ.f 5) (sortCon e).ctr := by
  intro cx σ N m w fr avs vs h hfr hreps hp
  unfold Con.ctr Con.effO at hp ⊢
  cases hrd : rds m (sortCon e).ps avs with
  | none => rw [hrd] at hp; exact hp.elim
  | some x =>
    rw [hrd] at hp
    simp only at hp ⊢
    split at hp
    · rename_i hid
      rw [if_pos hid]
      obtain ⟨xs, u⟩ := x
      cases u
      match avs, hrd, hreps, hid with
      | [v], hrd, hreps, hid =>
        simp only [sortCon, rds] at hrd
        obtain ⟨h1, _⟩ := implP_some hrd
        obtain ⟨id, rfl, h2⟩ := rd_o h1
        have hm := rdRow_some h2
        unfold repAs at hreps
        obtain ⟨v0, r, rfl, h3, h4⟩ := hreps
        unfold repAs at h4
        subst h4
        unfold repA repC at h3
        obtain ⟨hn, rfl⟩ := h3
        simp only [rx] at hn ⊢
        have hsz : xs.length < 4611686018427387904 := hp
        have goal_eff : ∀ (w' : World), Res cx σ N m w fr ⟨xs.length < 4611686018427387904, .tup [], [(id, .row e (.int .i64) (sortI xs))], True⟩ (.tuple #[]) w' →
            ∃ v, Ending.returned (.tuple #[]) = .returned v ∧ Res cx σ N m w fr ((sortCon e).eff [.one (.row id)] m fr (xs, ())) v w' := fun w' hr => ⟨_, rfl, hr⟩
        have hb := h.blk id
        rw [hm] at hb
        obtain ⟨n', flat, rfl, k1, k2⟩ := hb
        simp only [rx] at k1 k2
        obtain ⟨hfl, hin⟩ := ro_ints xs flat k2
        rcases k1.2 with ⟨e2, a0, e1⟩ | ⟨g, cap, cur, hc, e1, hg, hlc, hcm, hcs, htk⟩
        · have hx : xs = [] := List.eq_nil_of_length_eq_zero e2
          subst hx
          rw [e1]
          refine (Go.Proofs.AnyM.slices_Sort_int_none L a0 0 w).mono ?_
          rintro e' w' ⟨rfl, rfl⟩
          refine goal_eff _ ?_
          have hs : sortI [] = [] := by simp [sortI]
          rw [hs]
          obtain ⟨g1, g2⟩ := h.weaken (N' := Nx N fr) (fun _ k => k.1)
          have hmm : updM m [(id, Blk.row e (.int .i64) [])] = m := same_row hm
          refine ⟨σ, ?_, ?_, ?_, trivial⟩ <;> simp only [hmm]
          · exact g1
          · exact g2
          · unfold repA; exact ⟨[], rfl, by unfold repAs; rfl⟩
        · have hcz : flat.length = xs.length * 1 := k1.1
          have hH : Holds (Value.int .i64) w g 0 xs.toArray := by
            intro j hj
            have hj' : j < xs.length := by simpa using hj
            rw [Nat.zero_add]
            refine ⟨?_, by simp [World.frozen?, hg]⟩
            refine rowR_cells k1 (g := g) (by rw [e1]; exact blkOf_slice hc) j _ ?_
            rw [hfl, List.getElem?_map, List.getElem?_eq_getElem hj', getElem!_pos xs.toArray j hj]
            rfl
          have hlt : g < w.heap.size := (Array.getElem?_eq_some_iff.1 hg).1
          rw [e1]
          refine (Go.Proofs.AnyM.slices_Sort_int L g 0 cap xs w hH hlt hsz).mono ?_
          rintro e' w' ⟨rfl, n, os, rfl⟩
          refine goal_eff _ ?_
          rw [putRow_map]
          have hl : (sortI xs).length = xs.length := List.length_mergeSort xs
          refine row_sorted h hn hm e1 hc hg hlc hcm hcs hl ?_ (sorted_world hg ?_ n os) fr _ trivial
          · have : ((sortI xs).toArray.map (Value.int .i64)).toList = (sortI xs).map (Value.int .i64) := by simp
            rw [show (List.mergeSort xs fun x y => decide (x ≤ y)) = sortI xs from rfl, this]
            exact ints_ro _ fun x hx => hin x ((List.mergeSort_perm xs _).mem_iff.1 hx)
          · have h9 : cap * 1 = cur.size := hcs.symm
            simp only [List.map_toArray, List.size_toArray, List.length_map, List.length_mergeSort]
            omega
      | [], hrd, _, _ => simp [sortCon, rds] at hrd
      | _ :: _ :: _, hrd, _, _ => 
        simp only [sortCon, rds] at hrd
        obtain ⟨_, h2⟩ := implP_some hrd
        cases h2
    · exact hp.elim

end
end Go.Ev

/- The contracts of the functions that the statements about the makeup reach: the peak. -/
set_option linter.unusedSimpArgs false
set_option linter.unusedVariables false
set_option maxRecDepth 100000
set_option maxHeartbeats 4000000
namespace Go.Proofs.YtdmgmdppejopcaaGreat
open Go.Ev

/-- How many are open. -/
def cnt (l : List Dep) (t : Int) : Nat := l.countP (fun d => isOpenV d t)
theorem openV_cnt (l : List Dep) (t : Int) : (openV l t).length = cnt l t := by
  unfold openV cnt
  rw [List.length_map, List.countP_eq_length_filter]
theorem isOpenV_iff (d : Dep) (t : Int) : isOpenV d t = true ↔ d.state = 0 ∧ d.opens ≤ t ∧ t < d.closes := by
  unfold isOpenV
  simp only [Bool.and_eq_true, decide_eq_true_eq]
  exact ⟨fun h => ⟨h.1.1, h.1.2, h.2⟩, fun h => ⟨⟨h.1, h.2.1⟩, h.2.2⟩⟩
theorem max_opens : ∀ (l : List Dep), l ≠ [] → ∃ d ∈ l, ∀ e ∈ l, e.opens ≤ d.opens
  | [], h => absurd rfl h
  | [d], _ => ⟨d, by simp, by simp⟩
  | a :: b :: l, _ => by
    obtain ⟨d, hd, h⟩ := max_opens (b :: l) (by simp)
    by_cases c : d.opens ≤ a.opens
    · exact ⟨a, by simp, fun e he => by rcases List.mem_cons.1 he with rfl | he; exact Int.le_refl _; have := h e he; omega⟩
    · exact ⟨d, List.mem_cons_of_mem _ hd, fun e he => by rcases List.mem_cons.1 he with rfl | he; omega; exact h e he⟩
theorem cnt_mono {l : List Dep} {x : Int} (h : 0 < cnt l x) : ∃ d ∈ l, isOpenV d x = true ∧ cnt l x ≤ cnt l d.opens := by
  have hne : l.filter (fun d => isOpenV d x) ≠ [] := fun e => by
    unfold cnt at h
    rw [List.countP_eq_length_filter, e] at h
    simp at h
  obtain ⟨d, hd, hm⟩ := max_opens _ hne
  obtain ⟨hdl, hdo⟩ := List.mem_filter.1 hd
  refine ⟨d, hdl, hdo, ?_⟩
  unfold cnt
  refine List.countP_mono_left fun e he heo => ?_
  have h1 := hm e (List.mem_filter.2 ⟨he, heo⟩)
  rw [isOpenV_iff] at heo hdo ⊢
  omega
def IsPk (l : List Dep) (p : Int × Int) : Prop := (p.2 = 0 ∧ p.1 = 0 ∧ ∀ x, cnt l x = 0) ∨ (0 < p.2 ∧ (cnt l p.1 : Int) = p.2 ∧ ∀ x, (cnt l x : Int) ≤ p.2 ∧ ((cnt l x : Int) = p.2 → p.1 ≤ x))
theorem IsPk.unique {l : List Dep} {p q : Int × Int} (hp : IsPk l p) (hq : IsPk l q) : p = q := by
  obtain ⟨t, n⟩ := p
  obtain ⟨t', n'⟩ := q
  unfold IsPk at hp hq
  simp only at hp hq
  rcases hp with ⟨h1, h2, h3⟩ | ⟨h1, h2, h3⟩ <;> rcases hq with ⟨g1, g2, g3⟩ | ⟨g1, g2, g3⟩
  · rw [h1, h2, g1, g2]
  · have := h3 t'; omega
  · have := g3 t; omega
  · have a := h3 t'
    have b := g3 t
    have e : n = n' := by omega
    have := a.2 (by omega)
    have := b.2 (by omega)
    have e2 : t = t' := by omega
    rw [e, e2]
def pkStep (l : List Dep) (a : Int × Int) (d : Dep) : Int × Int :=
  if ((openV l d.opens).length : Int) > a.2 ∨ (((openV l d.opens).length : Int) = a.2 ∧ ((openV l d.opens).length : Int) > 0) ∧ d.opens < a.1 then (d.opens, ((openV l d.opens).length : Int)) else a
def peakV (l : List Dep) : Int × Int := l.foldl (pkStep l) (0, 0)
theorem peakV_is (l : List Dep) : IsPk l (peakV l) := by
  have key : ∀ (r : List Dep) (a : Int × Int) (P : Dep → Prop), (a.2 = 0 ∧ a.1 = 0 ∧ ∀ d, P d → cnt l d.opens = 0) ∨ (0 < a.2 ∧ (cnt l a.1 : Int) = a.2 ∧ ∀ d, P d → (cnt l d.opens : Int) ≤ a.2 ∧ ((cnt l d.opens : Int) = a.2 → a.1 ≤ d.opens)) →
      ((r.foldl (pkStep l) a).2 = 0 ∧ (r.foldl (pkStep l) a).1 = 0 ∧ ∀ d, (P d ∨ d ∈ r) → cnt l d.opens = 0) ∨ (0 < (r.foldl (pkStep l) a).2 ∧ (cnt l (r.foldl (pkStep l) a).1 : Int) = (r.foldl (pkStep l) a).2 ∧ ∀ d, (P d ∨ d ∈ r) → (cnt l d.opens : Int) ≤ (r.foldl (pkStep l) a).2 ∧ ((cnt l d.opens : Int) = (r.foldl (pkStep l) a).2 → (r.foldl (pkStep l) a).1 ≤ d.opens)) := by
    intro r
    induction r with
    | nil => intro a P h; simpa using h
    | cons d r ih =>
      intro a P h
      have := ih (pkStep l a d) (fun e => P e ∨ e = d) (by
        unfold pkStep
        rw [openV_cnt]
        split
        · rename_i hc
          right
          dsimp only
          have hpos : (0 : Int) < cnt l d.opens := by
            rcases h with ⟨h1, h2, h3⟩ | ⟨h1, h2, h3⟩ <;> omega
          refine ⟨hpos, rfl, fun e he => ?_⟩
          rcases he with he | rfl
          · rcases h with ⟨h1, h2, h3⟩ | ⟨h1, h2, h3⟩
            · have := h3 e he; omega
            · obtain ⟨u, v⟩ := h3 e he
              refine ⟨by omega, fun k => ?_⟩
              have := v (by omega)
              omega
          · exact ⟨Int.le_refl _, fun _ => Int.le_refl _⟩
        · rename_i hc
          rcases h with ⟨h1, h2, h3⟩ | ⟨h1, h2, h3⟩
          · refine .inl ⟨h1, h2, fun e he => ?_⟩
            rcases he with he | rfl
            · exact h3 e he
            · omega
          · refine .inr ⟨h1, h2, fun e he => ?_⟩
            rcases he with he | rfl
            · exact h3 e he
            · exact ⟨by omega, fun k => by omega⟩)
      rw [List.foldl_cons]
      have hq : ∀ e, (P e ∨ e ∈ d :: r) → ((P e ∨ e = d) ∨ e ∈ r) := fun e he => by
        rcases he with he | he
        · exact .inl (.inl he)
        · rcases List.mem_cons.1 he with rfl | he
          · exact .inl (.inr rfl)
          · exact .inr he
      rcases this with ⟨h1, h2, h3⟩ | ⟨h1, h2, h3⟩
      · exact .inl ⟨h1, h2, fun e he => h3 e (hq e he)⟩
      · exact .inr ⟨h1, h2, fun e he => h3 e (hq e he)⟩
  have := key l (0, 0) (fun _ => False) (.inl ⟨rfl, rfl, fun _ h => h.elim⟩)
  unfold IsPk peakV
  rcases this with ⟨h1, h2, h3⟩ | ⟨h1, h2, h3⟩
  · refine .inl ⟨h1, h2, fun x => ?_⟩
    rcases Nat.eq_zero_or_pos (cnt l x) with e | e
    · exact e
    · obtain ⟨d, hd, _, hm⟩ := cnt_mono e
      have := h3 d (.inr hd)
      omega
  · refine .inr ⟨h1, h2, fun x => ?_⟩
    rcases Nat.eq_zero_or_pos (cnt l x) with e | e
    · omega
    · obtain ⟨d, hd, ho, hm⟩ := cnt_mono e
      obtain ⟨u, v⟩ := h3 d (.inr hd)
      rw [isOpenV_iff] at ho
      exact ⟨by omega, fun k => by have := v (by omega); omega⟩
def con30 : Con := { ps := [.d false (.sl (.pair (.pair .str (.pair (.int .i64) (.pair .str (.int .i64)))) (.pair .str (.pair (.int .i64) (.pair (.int .i64) (.pair (.int .i64) (.pair (.int .i64) (.int .i64))))))))], rs := [.d false (.int .i64), .d false (.int .i64)], pre := fun (x : List Dep × Unit) => x.1.length ≤ 1048576, out := fun (x : List Dep × Unit) => ((peakV x.1).1, (peakV x.1).2, ()), nw := id }
theorem c30 : CtrOk Tryz.prog 30 con30.ctr :=
  con_sound (G := ⟨[(16, con16.ctr)], [], []⟩) tab_ok (EnvOk.cons c16 has16 EnvOk.nil) rfl Tryz.func30 rfl con30 1099511632381 (by kernel_rfl) (by decide) (by decide) rfl (by decide) rfl (by
    rintro ⟨(l : List Dep), _⟩ hpre hwf X hT hG hk hK
    have hl : l.length ≤ 1048576 := hpre
    (simp only [go_sem, Prod.eta, Option.isSome_none, Option.isSome_some, Int.toNat_zero, Nat.reduceAdd, Nat.reduceMul, Nat.reduceSub, Nat.reduceEqDiff, Nat.reduceLT, Nat.reduceLeDiff, Nat.reduceShiftRight, Nat.reduceMod, Nat.reduceBEq, reduceCtorEq, reduceIte, reduceDIte, Int.reduceNeg, Bool.not_eq_true', Bool.not_eq_false', Bool.or_eq_true, Bool.or_eq_false_iff, Bool.and_eq_true, Bool.and_eq_false_iff, decide_eq_true_eq, decide_eq_false_iff_not, Classical.not_not, not_or, maxLen, con30, con16, hT, hG, hk, hK, Tryz.results30] at hwf ⊢); (try simp (disch := decide +kernel) only [drawn, true_and, and_true])
    refine evk_loop ⟨{ i : Nat // i ≤ l.length }, 1000, fun i => [(0, .one (.sl (.pair (.pair .str (.pair (.int .i64) (.pair .str (.int .i64)))) (.pair .str (.pair (.int .i64) (.pair (.int .i64) (.pair (.int .i64) (.pair (.int .i64) (.int .i64))))))) l false)), (4, .one (.int .i64 ((l.take i.1).foldl (pkStep l) (0, 0)).1)), (5, .one (.int .i64 ((l.take i.1).foldl (pkStep l) (0, 0)).2)), (6, .one (.int .i64 i.1))], fun _ => [], fun i => l.length - i.1⟩ ⟨0, by simp⟩ ?_ ?_
    · simp only [go_sem, Prod.eta, Option.isSome_none, Option.isSome_some, Int.toNat_zero, Nat.reduceAdd, Nat.reduceMul, Nat.reduceSub, Nat.reduceEqDiff, Nat.reduceLT, Nat.reduceLeDiff, Nat.reduceShiftRight, Nat.reduceMod, Nat.reduceBEq, reduceCtorEq, reduceIte, reduceDIte, Int.reduceNeg]
      exact ⟨rfl, rfl, rfl⟩
    · rintro ⟨i, (hi : i ≤ l.length)⟩
      (simp only [go_sem, Prod.eta, Option.isSome_none, Option.isSome_some, Int.toNat_zero, Nat.reduceAdd, Nat.reduceMul, Nat.reduceSub, Nat.reduceEqDiff, Nat.reduceLT, Nat.reduceLeDiff, Nat.reduceShiftRight, Nat.reduceMod, Nat.reduceBEq, reduceCtorEq, reduceIte, reduceDIte, Int.reduceNeg, Bool.not_eq_true', Bool.not_eq_false', Bool.or_eq_true, Bool.or_eq_false_iff, Bool.and_eq_true, Bool.and_eq_false_iff, decide_eq_true_eq, decide_eq_false_iff_not, Classical.not_not, not_or, maxLen, con30, con16, hT, hG, hk, hK, Tryz.results30]); (try simp (disch := decide +kernel) only [drawn, true_and, and_true])
      refine fun _ => ⟨fun hlt => ?_, fun hge => ?_⟩
      · have hi' : i < l.length := by omega
        have ek : ∀ z, l.getD (i : Int).toNat z = l[i] := fun z => by simp [hi']
        simp only [ek]
        have hst : (l.take (i + 1)).foldl (pkStep l) (0, 0) = pkStep l ((l.take i).foldl (pkStep l) (0, 0)) l[i] := by
          rw [List.take_succ_eq_append_getElem hi', List.foldl_append]; rfl
        have hop := openV_len l l[i].2.2.1
        generalize (l.take i).foldl (pkStep l) (0, 0) = a at hst ⊢
        (repeat' (with_reducible (first | refine And.intro ?_ ?_ | intro _))) <;> (try (first | with_reducible (first | done | assumption | omega | contradiction) | decide))
        · have hc : ((openV l l[i].opens).length : Int) > a.2 ∨ (((openV l l[i].opens).length : Int) = a.2 ∧ ((openV l l[i].opens).length : Int) > 0) ∧ l[i].opens < a.1 := by assumption
          have e : pkStep l a l[i] = (l[i].opens, ((openV l l[i].opens).length : Int)) := if_pos hc
          refine fin_lp ⟨i + 1, by omega⟩ ?_ ?_
          · simp only [go_sem, Prod.eta, Option.isSome_none, Option.isSome_some, Int.toNat_zero, Nat.reduceAdd, Nat.reduceMul, Nat.reduceSub, Nat.reduceEqDiff, Nat.reduceLT, Nat.reduceLeDiff, Nat.reduceShiftRight, Nat.reduceMod, Nat.reduceBEq, reduceCtorEq, reduceIte, reduceDIte, Int.reduceNeg]
            rw [hst, e]
            exact ⟨rfl, rfl, rfl⟩
          · dsimp only; omega
        · have hc : ¬ ((openV l l[i].opens).length : Int) > a.2 ∧ ((¬ ((openV l l[i].opens).length : Int) = a.2 ∨ ¬ ((openV l l[i].opens).length : Int) > 0) ∨ ¬ l[i].opens < a.1) := by assumption
          have e : pkStep l a l[i] = a := if_neg (by omega)
          refine fin_lp ⟨i + 1, by omega⟩ ?_ ?_
          · simp only [go_sem, Prod.eta, Option.isSome_none, Option.isSome_some, Int.toNat_zero, Nat.reduceAdd, Nat.reduceMul, Nat.reduceSub, Nat.reduceEqDiff, Nat.reduceLT, Nat.reduceLeDiff, Nat.reduceShiftRight, Nat.reduceMod, Nat.reduceBEq, reduceCtorEq, reduceIte, reduceDIte, Int.reduceNeg]
            rw [hst, e]
            exact ⟨rfl, rfl, rfl⟩
          · dsimp only; omega
      · rw [List.take_of_length_le (by omega)]
        exact ⟨rfl, rfl⟩)
def con52 : Con := { ps := [.o 3 (.int .i64)], rs := [], pre := fun x => x.1.length < 4611686018427387904, out := fun _ => (), nw := fun x => (sortI x.1, ()) }
theorem c52 : CtrOk Tryz.prog 52 con52.ctr := sort_int Tryz.sortA 3
theorem sortI_len (l : List Int) : (sortI l).length = l.length := List.length_mergeSort l
theorem sortI_perm (l : List Int) : (sortI l).Perm l := List.mergeSort_perm l _
theorem sortI_sorted (l : List Int) : (sortI l).Pairwise (· ≤ ·) := by
  have h := List.pairwise_mergeSort (le := fun x y : Int => decide (x ≤ y)) (fun a b c => by simp; omega) (fun a b => by simp; omega) l
  exact h.imp (fun h => by simpa using h)
theorem sorted_le {L : List Int} (h : L.Pairwise (· ≤ ·)) {i j : Nat} (hij : i ≤ j) (hj : j < L.length) : L[i]'(by omega) ≤ L[j] := by
  rcases Nat.lt_or_eq_of_le hij with h1 | rfl
  · exact List.pairwise_iff_getElem.1 h i j (by omega) hj h1
  · exact Int.le_refl _
/-- How many of a sorted list are at most t. -/
theorem count_sorted {L : List Int} {t : Int} {k : Nat} (hk : k ≤ L.length) (h1 : ∀ j (h : j < k), L[j]'(by omega) ≤ t) (h2 : ∀ j (h : j < L.length), k ≤ j → t < L[j]) : L.countP (fun x => decide (x ≤ t)) = k := by
  have e : L = L.take k ++ L.drop k := (List.take_append_drop k L).symm
  rw [e, List.countP_append]
  have a : (L.take k).countP (fun x => decide (x ≤ t)) = (L.take k).length := by
    rw [List.countP_eq_length]
    intro x hx
    obtain ⟨j, hj, rfl⟩ := List.mem_iff_getElem.1 hx
    rw [List.length_take] at hj
    rw [List.getElem_take]
    exact decide_eq_true (h1 j (by omega))
  have b : (L.drop k).countP (fun x => decide (x ≤ t)) = 0 := by
    rw [List.countP_eq_zero]
    intro x hx
    obtain ⟨j, hj, rfl⟩ := List.mem_iff_getElem.1 hx
    rw [List.length_drop] at hj
    rw [List.getElem_drop]
    have := h2 (k + j) (by omega) (by omega)
    rw [decide_eq_true_eq]
    omega
  rw [a, b, List.length_take]
  omega
def good (d : Dep) : Bool := decide (d.state = 0) && decide (d.opens < d.closes)
def goodL (l : List Dep) : List Dep := l.filter good
theorem goodL_snoc (l : List Dep) (d : Dep) : goodL (l ++ [d]) = if good d = true then goodL l ++ [d] else goodL l := by
  unfold goodL
  rw [List.filter_append]
  by_cases h : good d = true
  · rw [if_pos h]; simp [h]
  · rw [if_neg h]; simp [h]
theorem goodL_len (l : List Dep) : (goodL l).length ≤ l.length := List.length_filter_le _ _
theorem cnt_good (l : List Dep) (t : Int) : (cnt l t : Int) = ((goodL l).map Dep.opens).countP (fun x => decide (x ≤ t)) - ((goodL l).map Dep.closes).countP (fun x => decide (x ≤ t)) := by
  induction l with
  | nil => rfl
  | cons d l ih =>
    have hc : cnt (d :: l) t = cnt l t + if isOpenV d t = true then 1 else 0 := by
      unfold cnt; rw [List.countP_cons]
    have hg : goodL (d :: l) = if good d = true then d :: goodL l else goodL l := by unfold goodL; rw [List.filter_cons]
    rw [hc, hg]
    by_cases h : good d = true
    · rw [if_pos h, List.map_cons, List.map_cons, List.countP_cons, List.countP_cons]
      unfold good at h
      simp only [Bool.and_eq_true, decide_eq_true_eq] at h ⊢
      have hi := isOpenV_iff d t
      by_cases ho : isOpenV d t = true
      · rw [if_pos ho]
        have := hi.1 ho
        rw [if_pos this.2.1, if_neg (by omega)]
        omega
      · rw [if_neg ho]
        have : ¬ (d.opens ≤ t ∧ t < d.closes) := fun k => ho (hi.2 ⟨h.1, k.1, k.2⟩)
        by_cases c1 : d.opens ≤ t
        · rw [if_pos c1, if_pos (by omega)]; omega
        · rw [if_neg c1, if_neg (by omega)]; omega
    · rw [if_neg h, if_neg]
      · exact ih
      · intro ho
        rw [isOpenV_iff] at ho
        apply h
        unfold good
        simp only [Bool.and_eq_true, decide_eq_true_eq]
        omega
/-- What the sweep has found. -/
def Acc (l : List Dep) (t n : Int) : Prop := (n = 0 ∧ t = 0) ∨ (0 < n ∧ (cnt l t : Int) = n)
theorem sweep_is {l : List Dep} {t n : Int} (ha : Acc l t n) (h : ∀ s ∈ (goodL l).map Dep.opens, (cnt l s : Int) ≤ n ∧ ((cnt l s : Int) = n → 0 < n → t ≤ s)) : (t, n) = peakV l := by
  refine IsPk.unique (l := l) ?_ (peakV_is l)
  have hd : ∀ x, 0 < cnt l x → ∃ s, s ≤ x ∧ cnt l x ≤ cnt l s ∧ s ∈ (goodL l).map Dep.opens := fun x hx => by
    obtain ⟨d, h1, h2, h3⟩ := cnt_mono hx
    rw [isOpenV_iff] at h2
    refine ⟨d.opens, h2.2.1, h3, List.mem_map.2 ⟨d, List.mem_filter.2 ⟨h1, ?_⟩, rfl⟩⟩
    unfold good
    simp only [Bool.and_eq_true, decide_eq_true_eq]
    omega
  unfold IsPk
  rcases ha with ⟨h1, h2⟩ | ⟨h1, h2⟩
  · refine .inl ⟨h1, h2, fun x => ?_⟩
    rcases Nat.eq_zero_or_pos (cnt l x) with e | e
    · exact e
    · obtain ⟨s, a, b, c⟩ := hd x e
      have := (h s c).1
      omega
  · refine .inr ⟨h1, h2, fun x => ?_⟩
    dsimp only at h1 h2 ⊢
    rcases Nat.eq_zero_or_pos (cnt l x) with e | e
    · omega
    · obtain ⟨s, a, b, c⟩ := hd x e
      obtain ⟨u, v⟩ := h s c
      exact ⟨by omega, fun k => by have := v (by omega) h1; omega⟩
def con23 : Con := { ps := [.d false (.sl (.pair (.pair .str (.pair (.int .i64) (.pair .str (.int .i64)))) (.pair .str (.pair (.int .i64) (.pair (.int .i64) (.pair (.int .i64) (.pair (.int .i64) (.int .i64))))))))], rs := [.d false (.int .i64), .d false (.int .i64)], pre := fun (x : List Dep × Unit) => x.1.length ≤ 1048576, out := fun (x : List Dep × Unit) => ((peakV x.1).1, (peakV x.1).2, ()), nw := id }
theorem c23 : CtrOk Tryz.prog 23 con23.ctr :=
  con_sound (G := ⟨[(52, con52.ctr)], [], []⟩) tab_ok (EnvOk.cons c52 has52 EnvOk.nil) rfl Tryz.func23 rfl con23 77522405076804009365602237 (by kernel_rfl) (by decide) (by decide) rfl (by decide) rfl (by
    rintro ⟨(l : List Dep), _⟩ hpre hwf X hT hG hk hK
    have hl : l.length ≤ 1048576 := hpre
    (simp only [go_sem, Prod.eta, Option.isSome_none, Option.isSome_some, Int.toNat_zero, Nat.reduceAdd, Nat.reduceMul, Nat.reduceSub, Nat.reduceEqDiff, Nat.reduceLT, Nat.reduceLeDiff, Nat.reduceShiftRight, Nat.reduceMod, Nat.reduceBEq, reduceCtorEq, reduceIte, reduceDIte, Int.reduceNeg, Bool.not_eq_true', Bool.not_eq_false', Bool.or_eq_true, Bool.or_eq_false_iff, Bool.and_eq_true, Bool.and_eq_false_iff, decide_eq_true_eq, decide_eq_false_iff_not, Classical.not_not, not_or, maxLen, con23, con52, hT, hG, hk, hK, Tryz.results23] at hwf ⊢); (try simp (disch := decide +kernel) only [drawn, true_and, and_true])
    refine fun _ => evk_loop ⟨{ i : Nat // i ≤ l.length }, 1000, fun i => [(4, .one (.row 64)), (5, .one (.row 65)), (14, .one (.sl (.pair (.pair .str (.pair (.int .i64) (.pair .str (.int .i64)))) (.pair .str (.pair (.int .i64) (.pair (.int .i64) (.pair (.int .i64) (.pair (.int .i64) (.int .i64))))))) l false)), (15, .one (.int .i64 l.length)), (16, .one (.int .i64 i.1))],
      fun i => [(64, .row 3 (.int .i64) ((goodL (l.take i.1)).map Dep.opens)), (65, .row 3 (.int .i64) ((goodL (l.take i.1)).map Dep.closes))], fun i => l.length - i.1⟩ ⟨0, by simp⟩ ?_ ?_
    · simp only [go_sem, Prod.eta, Option.isSome_none, Option.isSome_some, Int.toNat_zero, Nat.reduceAdd, Nat.reduceMul, Nat.reduceSub, Nat.reduceEqDiff, Nat.reduceLT, Nat.reduceLeDiff, Nat.reduceShiftRight, Nat.reduceMod, Nat.reduceBEq, reduceCtorEq, reduceIte, reduceDIte, Int.reduceNeg]
      exact ⟨rfl, rfl, rfl⟩
    · rintro ⟨i, (hi : i ≤ l.length)⟩
      (simp only [go_sem, Prod.eta, Option.isSome_none, Option.isSome_some, Int.toNat_zero, Nat.reduceAdd, Nat.reduceMul, Nat.reduceSub, Nat.reduceEqDiff, Nat.reduceLT, Nat.reduceLeDiff, Nat.reduceShiftRight, Nat.reduceMod, Nat.reduceBEq, reduceCtorEq, reduceIte, reduceDIte, Int.reduceNeg, Bool.not_eq_true', Bool.not_eq_false', Bool.or_eq_true, Bool.or_eq_false_iff, Bool.and_eq_true, Bool.and_eq_false_iff, decide_eq_true_eq, decide_eq_false_iff_not, Classical.not_not, not_or, maxLen, con23, con52, hT, hG, hk, hK, Tryz.results23]); (try simp (disch := decide +kernel) only [drawn, true_and, and_true])
      refine ⟨fun hlt => ?_, fun hge => ?_⟩
      · have hi' : i < l.length := by omega
        have ek : ∀ z, l.getD (i : Int).toNat z = l[i] := fun z => by simp [hi']
        simp only [ek]
        have hst : goodL (l.take (i + 1)) = if good l[i] = true then goodL (l.take i) ++ [l[i]] else goodL (l.take i) := by
          rw [List.take_succ_eq_append_getElem hi', goodL_snoc]
        have hlen := goodL_len (l.take i)
        rw [List.length_take] at hlen
        simp only [List.length_map]
        (repeat' (with_reducible (first | refine And.intro ?_ ?_ | intro _))) <;> (try (first | with_reducible (first | done | assumption | omega | contradiction) | decide))
        · have hg : good l[i] = true := by
            unfold good
            simp only [Bool.and_eq_true, decide_eq_true_eq]
            assumption
          refine fin_lp ⟨i + 1, by omega⟩ ?_ ?_
          · simp only [go_sem, Prod.eta, Option.isSome_none, Option.isSome_some, Int.toNat_zero, Nat.reduceAdd, Nat.reduceMul, Nat.reduceSub, Nat.reduceEqDiff, Nat.reduceLT, Nat.reduceLeDiff, Nat.reduceShiftRight, Nat.reduceMod, Nat.reduceBEq, reduceCtorEq, reduceIte, reduceDIte, Int.reduceNeg]
            rw [hst, if_pos hg, List.map_append, List.map_append]
            exact ⟨rfl, rfl, rfl⟩
          · dsimp only; omega
        · have hg : ¬ good l[i] = true := by
            unfold good
            simp only [Bool.and_eq_true, decide_eq_true_eq]
            have h : ¬ l[i].2.2.2.2.2.2 = 0 ∨ ¬ l[i].2.2.1 < l[i].2.2.2.1 := by assumption
            intro k
            rcases h with h | h
            · exact h k.1
            · exact h k.2
          refine fin_lp ⟨i + 1, by omega⟩ ?_ ?_
          · simp only [go_sem, Prod.eta, Option.isSome_none, Option.isSome_some, Int.toNat_zero, Nat.reduceAdd, Nat.reduceMul, Nat.reduceSub, Nat.reduceEqDiff, Nat.reduceLT, Nat.reduceLeDiff, Nat.reduceShiftRight, Nat.reduceMod, Nat.reduceBEq, reduceCtorEq, reduceIte, reduceDIte, Int.reduceNeg]
            rw [hst, if_neg hg]
            exact ⟨rfl, rfl, rfl⟩
          · dsimp only; omega
      · rw [List.take_of_length_le (by omega)]
        have hgl := goodL_len l
        have hcnt := fun t => cnt_good l t
        have hfin := fun t n => @sweep_is l t n
        generalize hA : (goodL l).map Dep.opens = A at hcnt hfin ⊢
        generalize hB : (goodL l).map Dep.closes = B at hcnt ⊢
        have hAl : A.length ≤ 1048576 := by rw [← hA, List.length_map]; omega
        have hBl : B.length = A.length := by rw [← hA, ← hB, List.length_map, List.length_map]
        have hSs := sortI_sorted A
        have hEs := sortI_sorted B
        have hSl := sortI_len A
        have hEl := sortI_len B
        have hcnt2 : ∀ t, (cnt l t : Int) = (sortI A).countP (fun x => decide (x ≤ t)) - (sortI B).countP (fun x => decide (x ≤ t)) := fun t => by
          rw [hcnt, (sortI_perm A).countP_eq, (sortI_perm B).countP_eq]
        have hmem : ∀ s, s ∈ A → s ∈ sortI A := fun s h => (sortI_perm A).mem_iff.2 h
        generalize sortI A = S at *
        generalize sortI B = E at *
        refine ⟨by omega, by omega, fun _ => ?_⟩
        clear hA hB hcnt
        refine evk_loop ⟨{ q : Nat × Int × Int × Nat // q.1 ≤ S.length ∧ q.2.2.2 ≤ E.length ∧ Acc l q.2.1 q.2.2.1 ∧ (∀ j (h : j < E.length) k (hk : k < S.length), j < q.2.2.2 → q.1 ≤ k → E[j] ≤ S[k])
            ∧ (∀ k (hk : k < S.length), k < q.1 → (∃ hi : q.1 < S.length, S[k] = S[q.1]) ∨ ((cnt l S[k] : Int) ≤ q.2.2.1 ∧ ((cnt l S[k] : Int) = q.2.2.1 → 0 < q.2.2.1 → q.2.1 ≤ S[k])))
            ∧ (0 < q.2.2.1 → ∀ k (hk : k < S.length), q.1 ≤ k → q.2.1 ≤ S[k]) ∧ -1 ≤ q.2.2.1 ∧ q.2.2.1 ≤ 1048577 }, 3000,
          fun q => [(4, .one (.row 64)), (5, .one (.row 65)), (8, .one (.int .i64 q.1.2.1)), (9, .one (.int .i64 q.1.2.2.1)), (10, .one (.int .i64 q.1.2.2.2)), (45, .one (.row 64)), (46, .one (.int .i64 S.length)), (47, .one (.int .i64 q.1.1))],
          fun q => [(64, .row 3 (.int .i64) S), (65, .row 3 (.int .i64) E)], fun q => S.length - q.1.1⟩ ⟨(0, 0, 0, 0), by simp, by simp, .inl ⟨rfl, rfl⟩, by intro j h k hk h1; simp at h1, by intro k hk h1; simp at h1, by simp, by simp, by simp⟩ ?_ ?_
        · simp only [go_sem, Prod.eta, Option.isSome_none, Option.isSome_some, Int.toNat_zero, Nat.reduceAdd, Nat.reduceMul, Nat.reduceSub, Nat.reduceEqDiff, Nat.reduceLT, Nat.reduceLeDiff, Nat.reduceShiftRight, Nat.reduceMod, Nat.reduceBEq, reduceCtorEq, reduceIte, reduceDIte, Int.reduceNeg]
          rfl
        · rintro ⟨⟨i, time, most, ov⟩, (c1 : i ≤ S.length), (c2 : ov ≤ E.length), (c3 : Acc l time most), (c4 : ∀ j (h : j < E.length) k (hk : k < S.length), j < ov → i ≤ k → E[j] ≤ S[k]), (c5 : ∀ k (hk : k < S.length), k < i → (∃ hi : i < S.length, S[k] = S[i]) ∨ ((cnt l S[k] : Int) ≤ most ∧ ((cnt l S[k] : Int) = most → 0 < most → time ≤ S[k]))), (c6 : 0 < most → ∀ k (hk : k < S.length), i ≤ k → time ≤ S[k]), (c7 : -1 ≤ most), (c8 : most ≤ 1048577)⟩
          (simp only [go_sem, Prod.eta, Option.isSome_none, Option.isSome_some, Int.toNat_zero, Nat.reduceAdd, Nat.reduceMul, Nat.reduceSub, Nat.reduceEqDiff, Nat.reduceLT, Nat.reduceLeDiff, Nat.reduceShiftRight, Nat.reduceMod, Nat.reduceBEq, reduceCtorEq, reduceIte, reduceDIte, Int.reduceNeg, Bool.not_eq_true', Bool.not_eq_false', Bool.or_eq_true, Bool.or_eq_false_iff, Bool.and_eq_true, Bool.and_eq_false_iff, decide_eq_true_eq, decide_eq_false_iff_not, Classical.not_not, not_or, maxLen, con23, con52, hT, hG, hk, hK, Tryz.results23]); (try simp (disch := decide +kernel) only [drawn, true_and, and_true])
          refine ⟨fun hlt => ?_, fun hge => ?_⟩
          · have hi' : i < S.length := by omega
            have ek : ∀ z, S.getD (i : Int).toNat z = S[i] := fun z => by simp [hi']
            simp only [ek]
            (repeat' (with_reducible (first | refine And.intro ?_ ?_ | intro _))) <;> (try (first | with_reducible (first | done | assumption | omega | contradiction) | decide))
            · rename_i h
              have hi2 : i + 1 < S.length := by omega
              have e2 : S[i + 1] = S[i] := by
                have := h.2
                rw [show ((i : Int) + 1).toNat = i + 1 by omega] at this
                simpa [hi2] using this
              refine fin_lp ⟨(i + 1, time, most, ov), by dsimp only; omega, c2, c3, fun j h k hk a b => c4 j h k hk a (by dsimp only at b; omega), ?_, fun a k hk b => c6 a k hk (by dsimp only at b; omega), c7, c8⟩ (by simp only [go_sem, Prod.eta, Option.isSome_none, Option.isSome_some, Int.toNat_zero, Nat.reduceAdd, Nat.reduceMul, Nat.reduceSub, Nat.reduceEqDiff, Nat.reduceLT, Nat.reduceLeDiff, Nat.reduceShiftRight, Nat.reduceMod, Nat.reduceBEq, reduceCtorEq, reduceIte, reduceDIte, Int.reduceNeg]; first | rfl | ((repeat' apply And.intro) <;> first | rfl | assumption | omega)) (by dsimp only; omega)
              intro k hk hki
              dsimp only at hki ⊢
              rcases Nat.lt_or_eq_of_le (Nat.lt_succ_iff.1 hki) with h1 | rfl
              · rcases c5 k hk h1 with ⟨_, h2⟩ | h2
                · exact .inl ⟨hi2, by rw [h2, e2]⟩
                · exact .inr h2
              · exact .inl ⟨hi2, e2.symm⟩
            · rename_i h
              have hgt : ∀ j (h : j < S.length), i + 1 ≤ j → S[i] < S[j] := by
                intro j hj hij
                have hi2 : i + 1 < S.length := by omega
                have e2 : ¬ S[i + 1] = S[i] := by
                  intro e
                  rcases h with h | h
                  · omega
                  · apply h
                    rw [show ((i : Int) + 1).toNat = i + 1 by omega]
                    simpa [hi2] using e
                have u1 : S[i] ≤ S[i + 1] := sorted_le hSs (Nat.le_succ i) hi2
                have u2 := sorted_le hSs hij hj
                omega
              have hS := count_sorted (L := S) (t := S[i]) (k := i + 1) (by omega) (fun j hj => sorted_le hSs (by omega) hi') hgt
              refine evk_loop ⟨{ o : Nat // o ≤ E.length ∧ ∀ j (h : j < E.length), j < o → E[j] ≤ S[i] }, 4000,
                fun q => [(4, .one (.row 64)), (5, .one (.row 65)), (8, .one (.int .i64 time)), (9, .one (.int .i64 most)), (10, .one (.int .i64 q.1)), (11, .one (.int .i64 i)), (12, .one (.int .i64 S[i])), (45, .one (.row 64)), (46, .one (.int .i64 S.length)), (47, .one (.int .i64 i))],
                fun q => [(64, .row 3 (.int .i64) S), (65, .row 3 (.int .i64) E)], fun q => E.length - q.1⟩ ⟨ov, c2, fun j h a => c4 j h i hi' a (Nat.le_refl _)⟩ ?_ ?_
              · simp only [go_sem, Prod.eta, Option.isSome_none, Option.isSome_some, Int.toNat_zero, Nat.reduceAdd, Nat.reduceMul, Nat.reduceSub, Nat.reduceEqDiff, Nat.reduceLT, Nat.reduceLeDiff, Nat.reduceShiftRight, Nat.reduceMod, Nat.reduceBEq, reduceCtorEq, reduceIte, reduceDIte, Int.reduceNeg]
              · rintro ⟨o, (d1 : o ≤ E.length), (d2 : ∀ j (h : j < E.length), j < o → E[j] ≤ S[i])⟩
                (simp only [go_sem, Prod.eta, Option.isSome_none, Option.isSome_some, Int.toNat_zero, Nat.reduceAdd, Nat.reduceMul, Nat.reduceSub, Nat.reduceEqDiff, Nat.reduceLT, Nat.reduceLeDiff, Nat.reduceShiftRight, Nat.reduceMod, Nat.reduceBEq, reduceCtorEq, reduceIte, reduceDIte, Int.reduceNeg, Bool.not_eq_true', Bool.not_eq_false', Bool.or_eq_true, Bool.or_eq_false_iff, Bool.and_eq_true, Bool.and_eq_false_iff, decide_eq_true_eq, decide_eq_false_iff_not, Classical.not_not, not_or, maxLen, con23, con52, hT, hG, hk, hK, Tryz.results23]); (try simp (disch := decide +kernel) only [drawn, true_and, and_true])
                have eo : ∀ (h : o < E.length) z, E.getD (o : Int).toNat z = E[o] := fun h z => by simp [h]
                have hproc : (¬ (o : Int) < E.length ∨ ¬ E.getD (o : Int).toNat 0 ≤ S[i]) → (cnt l S[i] : Int) = (i : Int) + 1 - o ∧ ∀ j (h : j < E.length) k (hk : k < S.length), j < o → i + 1 ≤ k → E[j] ≤ S[k] := fun h => by
                  have hE := count_sorted (L := E) (t := S[i]) (k := o) d1 (fun j hj => d2 j (by omega) hj) (fun j hj hoj => by
                    have ho : o < E.length := by omega
                    have : ¬ E[o] ≤ S[i] := by
                      rcases h with h | h
                      · omega
                      · rwa [eo ho] at h
                    have : E[o] ≤ E[j] := sorted_le hEs hoj hj
                    omega)
                  have hc := hcnt2 S[i]
                  rw [hS, hE] at hc
                  refine ⟨by rw [hc]; omega, fun j hj k hk a b => ?_⟩
                  have u1 : E[j] ≤ S[i] := d2 j hj a
                  have u2 : S[i] ≤ S[k] := sorted_le hSs (by omega) hk
                  omega
                (repeat' (with_reducible (first | refine And.intro ?_ ?_ | intro _))) <;> (try (first | with_reducible (first | done | assumption | omega | contradiction) | decide))
                · rename_i h
                  have ho : o < E.length := by omega
                  have h2 := h.2
                  rw [eo ho] at h2
                  refine fin_lp ⟨o + 1, by omega, ?_⟩ (by simp only [go_sem, Prod.eta, Option.isSome_none, Option.isSome_some, Int.toNat_zero, Nat.reduceAdd, Nat.reduceMul, Nat.reduceSub, Nat.reduceEqDiff, Nat.reduceLT, Nat.reduceLeDiff, Nat.reduceShiftRight, Nat.reduceMod, Nat.reduceBEq, reduceCtorEq, reduceIte, reduceDIte, Int.reduceNeg]; first | rfl | ((repeat' apply And.intro) <;> first | rfl | assumption | omega)) (by dsimp only; omega)
                  intro j hj ha
                  rcases Nat.lt_or_eq_of_le (Nat.lt_succ_iff.1 ha) with h1 | h1
                  · exact d2 j hj h1
                  · subst h1; exact h2
                · have h : (i : Int) + 1 - o > most := by assumption
                  have hm : 0 ≤ most := by rcases c3 with ⟨c, _⟩ | ⟨c, _⟩ <;> omega
                  obtain ⟨hc, hq⟩ := hproc (by assumption)
                  refine fin_lp ⟨(i + 1, S[i], (i : Int) + 1 - o, o), by dsimp only; omega, d1, .inr ⟨by dsimp only; omega, hc⟩, hq, ?_, ?_, by dsimp only; omega, by dsimp only; omega⟩ (by simp only [go_sem, Prod.eta, Option.isSome_none, Option.isSome_some, Int.toNat_zero, Nat.reduceAdd, Nat.reduceMul, Nat.reduceSub, Nat.reduceEqDiff, Nat.reduceLT, Nat.reduceLeDiff, Nat.reduceShiftRight, Nat.reduceMod, Nat.reduceBEq, reduceCtorEq, reduceIte, reduceDIte, Int.reduceNeg]; first | rfl | ((repeat' apply And.intro) <;> first | rfl | assumption | omega)) (by dsimp only; omega)
                  · intro k hk hki
                    dsimp only at hki ⊢
                    right
                    rcases Nat.lt_or_eq_of_le (Nat.lt_succ_iff.1 hki) with h1 | h1
                    · rcases c5 k hk h1 with ⟨_, h2⟩ | h2
                      · rw [h2]; exact ⟨by omega, fun _ _ => Int.le_refl _⟩
                      · exact ⟨by omega, fun a b => by omega⟩
                    · subst h1; exact ⟨by omega, fun _ _ => Int.le_refl _⟩
                  · intro _ k hk b
                    exact sorted_le hSs (by dsimp only at b; omega) hk
                · have h : ¬ (i : Int) + 1 - o > most := by assumption
                  obtain ⟨hc, hq⟩ := hproc (by assumption)
                  refine fin_lp ⟨(i + 1, time, most, o), by dsimp only; omega, d1, c3, hq, ?_, fun a k hk b => c6 a k hk (by dsimp only at b; omega), c7, c8⟩ (by simp only [go_sem, Prod.eta, Option.isSome_none, Option.isSome_some, Int.toNat_zero, Nat.reduceAdd, Nat.reduceMul, Nat.reduceSub, Nat.reduceEqDiff, Nat.reduceLT, Nat.reduceLeDiff, Nat.reduceShiftRight, Nat.reduceMod, Nat.reduceBEq, reduceCtorEq, reduceIte, reduceDIte, Int.reduceNeg]; first | rfl | ((repeat' apply And.intro) <;> first | rfl | assumption | omega)) (by dsimp only; omega)
                  intro k hk hki
                  dsimp only at hki ⊢
                  right
                  rcases Nat.lt_or_eq_of_le (Nat.lt_succ_iff.1 hki) with h1 | h1
                  · rcases c5 k hk h1 with ⟨_, h2⟩ | h2
                    · rw [h2]; exact ⟨by omega, fun _ a => c6 a i hi' (Nat.le_refl _)⟩
                    · exact h2
                  · subst h1; exact ⟨by omega, fun _ a => c6 a k hk (Nat.le_refl _)⟩
          · have := hfin time most c3 (fun s hs => by
              obtain ⟨k, hk, rfl⟩ := List.mem_iff_getElem.1 (hmem s hs)
              rcases c5 k hk (by omega) with ⟨h, _⟩ | h
              · omega
              · exact h)
            rw [← this]
            exact ⟨rfl, rfl⟩)
end Go.Proofs.YtdmgmdppejopcaaGreat
