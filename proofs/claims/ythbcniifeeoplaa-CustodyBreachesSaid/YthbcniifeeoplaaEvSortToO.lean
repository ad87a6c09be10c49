/- The library's sorts, as contracts: a row is sorted in place. -/
import Derived.Test.YthbcniifeeoplaaEvFun3ToFun5
import Derived.Shelf.SortM.Plain
import Derived.Shelf.SortM.SortNone
import Derived.Shelf.SlSortCmp.WholeK
import Derived.Shelf.SlSortCmp.NoneTotal
import Derived.Test.YthbcniifeeoplaaCuF
import Derived.Test.YthbcniifeeoplaaCuLay
set_option linter.unusedSimpArgs false
set_option linter.unusedVariables false
namespace Go.Ev
open Go.Sort (putCells putRow mapBlock onCells grow Holds)

section
variable {cx : Cx} {σ : Nat → Value} {N : Nat → Prop} {m : Mem} {w : World} {P : Program}

theorem putCells_list (F cur : Array Value) (h : F.size ≤ cur.size) : (putCells id 0 F cur).toList = F.toList ++ cur.toList.drop F.size := by
  apply List.ext_getElem
  · simp [putCells]; omega
  · intro k h1 h2
    have hk : k < cur.size := by simpa [putCells] using h1
    simp only [putCells, Array.getElem_toList, Array.getElem_mapIdx, List.getElem_append, Array.length_toList, List.getElem_drop, Nat.zero_le, true_and, Nat.zero_add, Nat.sub_zero, id]
    split
    · rename_i hlt
      exact getElem!_pos F k hlt
    · rename_i hlt
      congr 1; omega

theorem putRow_map {α : Type} [Inhabited α] (enc : α → Value) (w : World) (g : Nat) (d : Array α) : putRow enc w g 0 d = putRow id w g 0 (d.map enc) := by
  unfold putRow
  refine Go.Sort.mapBlock_congr _ _ _ _ fun c _ _ _ => ?_
  apply Array.ext
  · simp [putCells]
  · intro k h1 h2
    simp only [putCells, Array.getElem_mapIdx, Array.size_map, Nat.sub_zero, id]
    split
    · rename_i hlt
      rw [getElem!_pos d k (by omega), getElem!_pos (d.map enc) k (by simp; omega)]
      simp
    · rfl

/-- The world behind a sort. -/
structure Sorted (w w' : World) (g : Nat) (e : TypeId) (cur : Array Value) (F : Array Value) : Prop where
  os : w'.os = w.os
  tape : w'.tape = w.tape
  output : w'.output = w.output
  size : w.heap.size ≤ w'.heap.size
  drawn : w.drawn ≤ w'.drawn
  block : ∀ b, b < w.heap.size → b ≠ g → w'.heap[b]? = w.heap[b]?
  row : ∃ cur' : Array Value, w'.heap[g]? = some (.cells cur' e (0, 0)) ∧ cur'.toList = F.toList ++ cur.toList.drop F.size

theorem sorted_world {g : Nat} {e : TypeId} {cur F : Array Value} (hg : w.heap[g]? = some (.cells cur e (0, 0))) (hF : F.size ≤ cur.size) (n : Nat) (os : Array Obj) : Sorted w (grow (putRow id (Go.Sort.ahead w n) g 0 F) os) g e cur F := by
  have hlt : g < w.heap.size := (Array.getElem?_eq_some_iff.1 hg).1
  refine ⟨rfl, rfl, rfl, by simp, by simp [grow, putRow, mapBlock, Go.Sort.ahead], fun b hb hne => ?_, putCells id 0 F cur, ?_, putCells_list F cur hF⟩
  · rw [Go.Sort.heap_grow_old _ _ (by simpa using hb)]
    simp [putRow, mapBlock, Go.Sort.ahead, Array.getElem?_modify, Ne.symm hne]
  · rw [Go.Sort.heap_grow_old _ _ (by simpa using hlt)]
    simp [putRow, mapBlock, Go.Sort.ahead, Array.getElem?_modify, hg, onCells]

/-- The state behind a sort. -/
theorem row_sorted (h : RepM cx σ N m w) {id : Nat} (hn : ¬ N id) {e : TypeId} {t : Ty} {xs : List t.den} (hm : m id = .row e t xs) {g cap : Nat} {cur : Array Value} (hσ : σ id = .slice (some ⟨g, 0, none⟩) xs.length cap) (hc : 0 < cap)
    (hg : w.heap[g]? = some (.cells cur e (0, 0))) (hlc : xs.length ≤ cap) (hcm : cap ≤ maxLen) (hcs : cur.size = cap * t.n) {xs' : List t.den} (hl : xs'.length = xs.length) {F : Array Value} (hF : roAll (ro w (Owned cx σ m) t) xs' F.toList) {w' : World} (hw : Sorted w w' g e cur F) (fr : Nat) (p : Prop) {q : Prop} (hq : q) :
    Res cx σ N m w fr ⟨p, .tup [], [(id, .row e t xs')], q⟩ (.tuple #[]) w' := by
  have hFl := roAll_len (fun x c => ro_len t x c) _ _ hF
  rw [Array.length_toList] at hFl
  obtain ⟨cur', hg', hcur'⟩ := hw.row
  obtain ⟨g1, g2⟩ := h.step (σ' := σ) (N' := Nx N fr) (m' := upd m id (.row e t xs')) (w' := w') (fun i => i = id) (fun _ k => k.1)
    (fun i k => by
      by_cases hi : i = id
      · subst hi; exact absurd k.1 hn
      · rw [upd_ne _ _ hi]; exact h.fresh i k.1)
    (fun i k => ⟨upd_ne _ _ k, rfl⟩) (fun _ _ => rfl)
    (fun b hb hx => hw.block b hb (fun e' => hx id rfl (by rw [hm]; rfl) (by rw [hσ, e']; exact .inl (blkOf_slice hc)))) ⟨hw.size, hw.drawn⟩ hw.os hw.tape hw.output
    (fun i b hi _ hb => .inr ⟨id, rfl, by rw [hm]; rfl, by rw [← hi]; exact hb⟩)
    (fun i i' b hi hi' _ _ _ _ => hi.trans hi'.symm) (fun i _ => h.hone i)
    (fun hk i hi => by
      subst hi
      rw [upd_same]
      have hfit : xs.length * t.n ≤ cap * t.n := Nat.mul_le_mul_right _ hlc
      refine ⟨xs'.length, F.toList, rfl, ?_, roAll_mono (ro_keep hk.k t) _ _ hF⟩
      simp only [rx]
      rw [hσ, ← hl]
      refine rowR_of (by rw [Array.length_toList, hFl]) hg' (by omega) hcm ?_ ?_
      · rw [← Array.length_toList, hcur']
        simp only [List.length_append, Array.length_toList, List.length_drop, hcs, hFl, hl]
        omega
      · rw [hcur', ← hFl, ← Array.length_toList]
        exact List.take_left)
  refine ⟨σ, g1, g2, ?_, hq⟩
  unfold repA
  exact ⟨[], rfl, by unfold repAs; rfl⟩

def sortI (xs : List Int) : List Int := xs.mergeSort fun x y => decide (x ≤ y)

theorem ro_ints {O : Nat → Prop} {k : IntKind} : ∀ (xs : List Int) (flat : List Value), roAll (ro w O (.int k)) xs flat → flat = xs.map (Value.int k) ∧ ∀ x ∈ xs, InR k x
  | [], flat, h => ⟨h, by simp⟩
  | x :: xs, _, ⟨c, d, e, h, hr⟩ => by
    obtain ⟨h1, h2⟩ := ro_ints xs d hr
    obtain ⟨g1, g2⟩ := h
    refine ⟨by rw [e, g1, h1]; rfl, fun y hy => ?_⟩
    rcases List.mem_cons.1 hy with rfl | hy
    · exact g2
    · exact h2 y hy
theorem ints_ro {O : Nat → Prop} {k : IntKind} : ∀ (xs : List Int), (∀ x ∈ xs, InR k x) → roAll (ro w O (.int k)) xs (xs.map (Value.int k))
  | [], _ => rfl
  | x :: xs, h => ⟨[.int k x], _, rfl, ⟨rfl, h x List.mem_cons_self⟩, ints_ro xs fun y hy => h y (List.mem_cons_of_mem _ hy)⟩

/-- slices.Sort at ints. -/
def sortCon (e : TypeId) : Con := { ps := [.o e (.int .i64)], rs := [], pre := fun x => x.1.length < 4611686018427387904, out := fun _ => (), nw := fun x => (sortI x.1, ()) }
theorem sort_int {ρ : Go.Shelf.Ren} (L : Go.Proofs.SlLaysM.n5 P ρ) (e : TypeId) : CtrOk P (ρ.f 5) (sortCon e).ctr := by
  intro cx σ N m w fr avs vs h hfr hreps hp
  unfold Con.ctr Con.effO at hp ⊢
  cases hrd : rds m (sortCon e).ps avs with
  | none => rw [hrd] at hp; exact hp.elim
  | some x =>
    rw [hrd] at hp
    simp only at hp ⊢
    split at hp
    · rename_i hid
      rw [if_pos hid]
      obtain ⟨xs, u⟩ := x
      cases u
      match avs, hrd, hreps, hid with
      | [v], hrd, hreps, hid =>
        simp only [sortCon, rds] at hrd
        obtain ⟨h1, _⟩ := implP_some hrd
        obtain ⟨id, rfl, h2⟩ := rd_o h1
        have hm := rdRow_some h2
        unfold repAs at hreps
        obtain ⟨v0, r, rfl, h3, h4⟩ := hreps
        unfold repAs at h4
        subst h4
        unfold repA repC at h3
        obtain ⟨hn, rfl⟩ := h3
        simp only [rx] at hn ⊢
        have hsz : xs.length < 4611686018427387904 := hp
        have goal_eff : ∀ (w' : World), Res cx σ N m w fr ⟨xs.length < 4611686018427387904, .tup [], [(id, .row e (.int .i64) (sortI xs))], True⟩ (.tuple #[]) w' →
            ∃ v, Ending.returned (.tuple #[]) = .returned v ∧ Res cx σ N m w fr ((sortCon e).eff [.one (.row id)] m fr (xs, ())) v w' := fun w' hr => ⟨_, rfl, hr⟩
        have hb := h.blk id
        rw [hm] at hb
        obtain ⟨n', flat, rfl, k1, k2⟩ := hb
        simp only [rx] at k1 k2
        obtain ⟨hfl, hin⟩ := ro_ints xs flat k2
        rcases k1.2 with ⟨e2, a0, e1⟩ | ⟨g, cap, cur, hc, e1, hg, hlc, hcm, hcs, htk⟩
        · have hx : xs = [] := List.eq_nil_of_length_eq_zero e2
          subst hx
          rw [e1]
          refine (Go.Proofs.AnyM.slices_Sort_int_none L a0 0 w).mono ?_
          rintro e' w' ⟨rfl, rfl⟩
          refine goal_eff _ ?_
          have hs : sortI [] = [] := by simp [sortI]
          rw [hs]
          obtain ⟨g1, g2⟩ := h.weaken (N' := Nx N fr) (fun _ k => k.1)
          have hmm : updM m [(id, Blk.row e (.int .i64) [])] = m := same_row hm
          refine ⟨σ, ?_, ?_, ?_, trivial⟩ <;> simp only [hmm]
          · exact g1
          · exact g2
          · unfold repA; exact ⟨[], rfl, by unfold repAs; rfl⟩
        · have hcz : flat.length = xs.length * 1 := k1.1
          have hH : Holds (Value.int .i64) w g 0 xs.toArray := by
            intro j hj
            have hj' : j < xs.length := by simpa using hj
            rw [Nat.zero_add]
            refine ⟨?_, by simp [World.frozen?, hg]⟩
            refine rowR_cells k1 (g := g) (by rw [e1]; exact blkOf_slice hc) j _ ?_
            rw [hfl, List.getElem?_map, List.getElem?_eq_getElem hj', getElem!_pos xs.toArray j hj]
            rfl
          have hlt : g < w.heap.size := (Array.getElem?_eq_some_iff.1 hg).1
          rw [e1]
          refine (Go.Proofs.AnyM.slices_Sort_int L g 0 cap xs w hH hlt hsz).mono ?_
          rintro e' w' ⟨rfl, n, os, rfl⟩
          refine goal_eff _ ?_
          rw [putRow_map]
          have hl : (sortI xs).length = xs.length := List.length_mergeSort xs
          refine row_sorted h hn hm e1 hc hg hlc hcm hcs hl ?_ (sorted_world hg ?_ n os) fr _ trivial
          · have : ((sortI xs).toArray.map (Value.int .i64)).toList = (sortI xs).map (Value.int .i64) := by simp
            rw [show (List.mergeSort xs fun x y => decide (x ≤ y)) = sortI xs from rfl, this]
            exact ints_ro _ fun x hx => hin x ((List.mergeSort_perm xs _).mem_iff.1 hx)
          · have h9 : cap * 1 = cur.size := hcs.symm
            simp only [List.map_toArray, List.size_toArray, List.length_map, List.length_mergeSort]
            omega
      | [], hrd, _, _ => simp [sortCon, rds] at hrd
      | _ :: _ :: _, hrd, _, _ => 
        simp only [sortCon, rds] at hrd
        obtain ⟨_, h2⟩ := implP_some hrd
        cases h2
    · exact hp.elim

end
end Go.Ev

/- The contracts of both Breaches. -/
set_option linter.unusedSimpArgs false
set_option linter.unusedVariables false
set_option maxRecDepth 100000
set_option maxHeartbeats 4000000
namespace Go.Proofs.Ythbcniifeeoplaa
open Go.Ev

abbrev Lay := List Nd × List Dv
abbrev Pla := List (List Int) × List (List Int)
def con37 : Con := { ps := [.o 3 (.int .i64)], rs := [], pre := fun x => x.1.length < 4611686018427387904, out := fun _ => (), nw := fun x => (sortI x.1, ()) }
theorem c37 : CtrOk Try.prog 37 con37.ctr := sort_int Try.sortA 3

theorem sortI_perm (l : List Int) : (sortI l).Perm l := List.mergeSort_perm l _
theorem sortI_sorted (l : List Int) : (sortI l).Pairwise (· ≤ ·) := by
  have h := List.pairwise_mergeSort (le := fun x y : Int => decide (x ≤ y)) (fun a b c => by simp; omega) (fun a b => by simp; omega) l
  exact h.imp (fun h => by simpa using h)

/-- What stands at a node. -/
def rowsAt (p : Pla) (n : Nat) : List Int := p.1.getD n [] ++ p.2.getD n []
def zoneAt (ns : List Nd) (n : Nat) : Int := (ns.getD n (ByteArray.empty, 0, 0, 0, [])).2.2.2.1
def okB (cl : List Int) (b : Int) : Bool := decide (b ≠ 0 ∧ b ∉ cl)
def brRow (ns : List Nd) (p : Pla) (cl : List Int) (n : Nat) : List Int := if zoneAt ns n = 1 then (rowsAt p n).filter (okB cl) else []
def brU (ns : List Nd) (p : Pla) (cl : List Int) : Nat → List Int
  | 0 => []
  | n + 1 => brU ns p cl n ++ brRow ns p cl n
theorem brU_mem {ns : List Nd} {p : Pla} {cl : List Int} {b : Int} : ∀ {k : Nat}, b ∈ brU ns p cl k ↔ ∃ n, n < k ∧ zoneAt ns n = 1 ∧ b ∈ rowsAt p n ∧ b ≠ 0 ∧ b ∉ cl
  | 0 => by simp [brU]
  | k + 1 => by
    rw [brU, List.mem_append, brU_mem (k := k)]
    unfold brRow
    constructor
    · rintro (⟨n, h1, h2⟩ | h)
      · exact ⟨n, by omega, h2⟩
      · split at h
        · rename_i hz
          rw [List.mem_filter] at h
          exact ⟨k, by omega, hz, h.1, by simpa [okB] using h.2⟩
        · cases h
    · rintro ⟨n, h1, hz, hm, h0⟩
      by_cases e : n = k
      · subst e
        right
        rw [if_pos hz, List.mem_filter]
        exact ⟨hm, by simpa [okB] using h0⟩
      · exact .inl ⟨n, by omega, hz, hm, h0⟩
/-- A plant whose bags stand at one place each. -/
structure Good (p : Pla) : Prop where
  small : ∀ n, (rowsAt p n).length ≤ 5
  bd : ∀ n b, b ∈ rowsAt p n → 0 ≤ b ∧ b ≤ 10
  one : ∀ n m b, b ≠ 0 → b ∈ rowsAt p n → b ∈ rowsAt p m → n = m
  nod : ∀ n, ((rowsAt p n).filter (fun b => decide (b ≠ 0))).Nodup
theorem brU_len {ns : List Nd} {p : Pla} {cl : List Int} (h : Good p) : ∀ k, (brU ns p cl k).length ≤ 5 * k
  | 0 => by simp [brU]
  | k + 1 => by
    have h1 := brU_len h (ns := ns) (cl := cl) k
    have h2 : (brRow ns p cl k).length ≤ 5 := by
      unfold brRow
      split
      · exact Nat.le_trans (List.length_filter_le _ _) (h.small k)
      · simp
    rw [brU, List.length_append]
    omega
theorem brU_nodup {ns : List Nd} {p : Pla} {cl : List Int} (h : Good p) : ∀ k, (brU ns p cl k).Nodup
  | 0 => by simp [brU]
  | k + 1 => by
    rw [brU, List.nodup_append]
    refine ⟨brU_nodup h k, ?_, ?_⟩
    · unfold brRow
      split
      · have := h.nod k
        have e : (rowsAt p k).filter (okB cl) = ((rowsAt p k).filter (fun b => decide (b ≠ 0))).filter (fun b => decide (b ∉ cl)) := by
          rw [List.filter_filter]
          congr 1
          funext b
          unfold okB
          by_cases h1 : b = 0 <;> by_cases h2 : b ∈ cl <;> simp [h1, h2]
        rw [e]
        exact this.filter _
      · simp
    · intro a ha b hb e
      subst e
      obtain ⟨n, h1, hz, hm, h0, hc⟩ := brU_mem.1 ha
      unfold brRow at hb
      split at hb
      · rw [List.mem_filter] at hb
        have := h.one n k a h0 hm hb.1
        omega
      · cases hb
def nums40 : List Int := (List.range 40).map (fun (k : Nat) => (k : Int) + 1)
def refBr (ns : List Nd) (p : Pla) (cl : List Int) : List Int := nums40.filter (fun b => decide (b ∈ brU ns p cl ns.length))
theorem sorted_unique : ∀ {a b : List Int}, a.Perm b → a.Pairwise (· ≤ ·) → b.Pairwise (· ≤ ·) → a = b
  | [], b, hp, _, _ => (List.nil_perm.1 hp).symm ▸ rfl
  | x :: a, [], hp, _, _ => by have := hp.length_eq; simp at this
  | x :: a, y :: b, hp, ha, hb => by
    rw [List.pairwise_cons] at ha hb
    have e : x = y := by
      have h1 : x ∈ y :: b := hp.subset (List.mem_cons_self ..)
      have h2 : y ∈ x :: a := hp.symm.subset (List.mem_cons_self ..)
      rcases List.mem_cons.1 h1 with h | h
      · exact h
      · rcases List.mem_cons.1 h2 with k | k
        · exact k.symm
        · have := hb.1 x h
          have := ha.1 y k
          omega
    subst e
    rw [sorted_unique (List.Perm.cons_inv hp) ha.2 hb.2]
theorem nums40_sorted : nums40.Pairwise (· < ·) := by
  unfold nums40
  rw [List.pairwise_map]
  exact List.pairwise_lt_range.imp (fun h => by omega)
theorem nums40_mem {b : Int} : b ∈ nums40 ↔ 1 ≤ b ∧ b ≤ 40 := by
  unfold nums40
  rw [List.mem_map]
  constructor
  · rintro ⟨k, hk, rfl⟩
    have := List.mem_range.1 hk
    omega
  · rintro ⟨h1, h2⟩
    exact ⟨(b - 1).toNat, List.mem_range.2 (by omega), by omega⟩
theorem breaches_law {ns : List Nd} {p : Pla} {cl : List Int} (h : Good p) : sortI (brU ns p cl ns.length) = refBr ns p cl := by
  refine sorted_unique ?_ (sortI_sorted _) ?_
  · refine (sortI_perm _).trans ?_
    rw [List.perm_ext_iff_of_nodup (brU_nodup h _)]
    · intro b
      unfold refBr
      rw [List.mem_filter, nums40_mem, decide_eq_true_eq]
      refine ⟨fun hb => ⟨?_, hb⟩, fun hb => hb.2⟩
      obtain ⟨n, _, _, hm, h0, _⟩ := brU_mem.1 hb
      have := h.bd n b hm
      omega
    · exact (nums40_sorted.imp (fun h => by omega)).filter _
  · exact (nums40_sorted.imp (fun h => by omega)).filter _
theorem breaches_again {ns : List Nd} {p : Pla} {cl : List Int} : sortI (brU ns p (cl ++ sortI (brU ns p cl ns.length)) ns.length) = [] := by
  have e : brU ns p (cl ++ sortI (brU ns p cl ns.length)) ns.length = [] := by
    rw [List.eq_nil_iff_forall_not_mem]
    intro b hb
    obtain ⟨n, h1, hz, hm, h0, hc⟩ := brU_mem.1 hb
    rw [List.mem_append, not_or] at hc
    exact hc.2 ((sortI_perm _).mem_iff.2 (brU_mem.2 ⟨n, h1, hz, hm, h0, hc.1⟩))
  rw [e]
  exact (sortI_perm []).eq_nil
end Go.Proofs.Ythbcniifeeoplaa

/- The contracts of both Breaches: the walks. -/
set_option linter.unusedSimpArgs false
set_option linter.unusedVariables false
set_option maxRecDepth 100000
set_option maxHeartbeats 4000000
namespace Go.Proofs.Ythbcniifeeoplaa
open Go.Ev

def con38 : RCon := { ps := [.d true (.pair (.sl (.sl (.int .i64))) (.sl (.sl (.int .i64)))), .d false (.int .i64)], rs := [.d true (.pair (.int .i64) (.int .i64)), .d false .bool], pre := fun (x : Pla × Int × Unit) => 1 ≤ x.2.1 ∧ x.1.1.length = x.1.2.length, rel := fun (x : Pla × Int × Unit) (y : (Int × Int) × Bool × Unit) (z : Pla × Int × Unit) => (y.2.1 = true → 0 ≤ y.1.1 ∧ y.1.1 < x.1.1.length ∧ x.2.1 ∈ rowsAt x.1 y.1.1.toNat) ∧ (y.2.1 = false → ∀ n, x.2.1 ∉ rowsAt x.1 n) }
theorem getD_out {S : List (List Int)} {n : Nat} (h : S.length ≤ n) : S.getD n [] = [] := by
  rw [List.getD_eq_getElem?_getD, List.getElem?_eq_none h]; rfl
theorem c38 : RCtrOk Try.prog 38 con38.rctr :=
  rcon_sound (G := ⟨[(14, con14.ctr)], [], []⟩) tab_ok (EnvOk.cons c14 has14 EnvOk.nil) rfl Try.func38 rfl con38 72198881416446455 (by kernel_rfl) (by decide) (by decide) rfl (by decide) rfl (by
    rintro ⟨⟨(S : List (List Int)), (B : List (List Int))⟩, (b : Int), _⟩ hpre hwf X hT hG hk hK
    (simp -implicitDefEqProofs only [go_sem, Prod.eta, Option.isSome_none, Option.isSome_some, Int.toNat_zero, Nat.reduceAdd, Nat.reduceMul, Nat.reduceSub, Nat.reduceEqDiff, Nat.reduceLT, Nat.reduceLeDiff, Nat.reduceShiftRight, Nat.reduceMod, Nat.reduceBEq, reduceCtorEq, reduceIte, reduceDIte, Int.reduceNeg, Bool.not_eq_true', Bool.not_eq_false', Bool.or_eq_true, Bool.or_eq_false_iff, Bool.and_eq_true, Bool.and_eq_false_iff, decide_eq_true_eq, decide_eq_false_iff_not, Classical.not_not, not_or, maxLen, con38, con14, hT, hG, hk, hK, Try.results38] at hwf ⊢); (try simp (disch := decide +kernel) only [drawn, true_and, and_true])
    obtain ⟨h1, h2⟩ : 1 ≤ b ∧ S.length = B.length := hpre
    refine evk_loop ⟨{ n : Nat // n ≤ S.length ∧ ∀ m, m < n → b ∉ S.getD m [] }, 1000, fun n => [(1, .one (.int .i64 b)), (2, .one (.loc 70 0)), (4, .one (.loc 71 0)), (5, .one (.bool false)), (6, .one (.int .i64 n.1))], fun n => [(70, .cells 54 [.sl (.sl (.int .i64)) S false, .sl (.sl (.int .i64)) B false]), (71, .cells 76 [.int .i64 0, .int .i64 0])], fun n => S.length - n.1⟩ ⟨0, by simp, fun m hm => by omega⟩ ?_ ?_
    · simp only [go_sem, Prod.eta, Option.isSome_none, Option.isSome_some, Int.toNat_zero, Nat.reduceAdd, Nat.reduceMul, Nat.reduceSub, Nat.reduceEqDiff, Nat.reduceLT, Nat.reduceLeDiff, Nat.reduceShiftRight, Nat.reduceMod, Nat.reduceBEq, reduceCtorEq, reduceIte, reduceDIte, Int.reduceNeg]
      first | rfl | exact ⟨rfl, rfl⟩
    · rintro ⟨n, (hn : n ≤ S.length), (hm : ∀ m, m < n → b ∉ S.getD m [])⟩
      (simp -implicitDefEqProofs only [go_sem, Prod.eta, Option.isSome_none, Option.isSome_some, Int.toNat_zero, Nat.reduceAdd, Nat.reduceMul, Nat.reduceSub, Nat.reduceEqDiff, Nat.reduceLT, Nat.reduceLeDiff, Nat.reduceShiftRight, Nat.reduceMod, Nat.reduceBEq, reduceCtorEq, reduceIte, reduceDIte, Int.reduceNeg, Bool.not_eq_true', Bool.not_eq_false', Bool.or_eq_true, Bool.or_eq_false_iff, Bool.and_eq_true, Bool.and_eq_false_iff, decide_eq_true_eq, decide_eq_false_iff_not, Classical.not_not, not_or, maxLen, con38, con14, hT, hG, hk, hK, Try.results38]); (try simp (disch := decide +kernel) only [drawn, true_and, and_true])
      refine fun _ => ⟨fun hlt => ?_, fun hge => ?_⟩
      · have hn1 : n < S.length := by omega
        have ea : ∀ z, S.getD (n : Int).toNat z = S[n] := fun z => by simp [hn1]
        have ea2 : S.getD n [] = S[n] := by simp [hn1]
        refine evk_loop ⟨{ k : Nat // k ≤ S[n].length ∧ b ∉ S[n].take k }, 1000, fun k => [(1, .one (.int .i64 b)), (2, .one (.loc 70 0)), (4, .one (.loc 71 0)), (5, .one (.bool false)), (6, .one (.int .i64 n)), (7, .one (.int .i64 k.1))], fun k => [(70, .cells 54 [.sl (.sl (.int .i64)) S false, .sl (.sl (.int .i64)) B false]), (71, .cells 76 [.int .i64 0, .int .i64 0])], fun k => S[n].length - k.1⟩ ⟨0, by simp, by simp⟩ ?_ ?_
        · simp only [go_sem, Prod.eta, Option.isSome_none, Option.isSome_some, Int.toNat_zero, Nat.reduceAdd, Nat.reduceMul, Nat.reduceSub, Nat.reduceEqDiff, Nat.reduceLT, Nat.reduceLeDiff, Nat.reduceShiftRight, Nat.reduceMod, Nat.reduceBEq, reduceCtorEq, reduceIte, reduceDIte, Int.reduceNeg]
          first | rfl | exact ⟨rfl, rfl⟩
        · rintro ⟨k, (hkk : k ≤ S[n].length), (hkm : b ∉ S[n].take k)⟩
          (simp -implicitDefEqProofs only [go_sem, Prod.eta, Option.isSome_none, Option.isSome_some, Int.toNat_zero, Nat.reduceAdd, Nat.reduceMul, Nat.reduceSub, Nat.reduceEqDiff, Nat.reduceLT, Nat.reduceLeDiff, Nat.reduceShiftRight, Nat.reduceMod, Nat.reduceBEq, reduceCtorEq, reduceIte, reduceDIte, Int.reduceNeg, Bool.not_eq_true', Bool.not_eq_false', Bool.or_eq_true, Bool.or_eq_false_iff, Bool.and_eq_true, Bool.and_eq_false_iff, decide_eq_true_eq, decide_eq_false_iff_not, Classical.not_not, not_or, maxLen, con38, con14, hT, hG, hk, hK, Try.results38]); (try simp (disch := decide +kernel) only [drawn, true_and, and_true])
          simp only [ea]
          have hi2 : ((0 : Int) ≤ n ∧ (n : Int) < S.length) = True := by rw [eq_iff_iff, iff_true]; omega
          simp only [hi2, true_and, true_implies]
          by_cases hkl : k < S[n].length
          · have eb : ∀ z, S[n].getD (k : Int).toNat z = S[n][k] := fun z => by simp [hkl]
            try simp only [eb]
            (repeat' (with_reducible (first | refine And.intro ?_ ?_ | intro _))) <;> (try (first | with_reducible (first | done | assumption | omega | contradiction) | decide))
            · rename_i he
              refine ⟨((n, k), true, ()), ((S, B), b, ()), ⟨fun _ => ⟨by simp only; omega, by simp only; omega, ?_⟩, fun h => (by cases h)⟩, rfl, rfl, rfl⟩
              show b ∈ rowsAt (S, B) (n : Int).toNat
              unfold rowsAt
              rw [Int.toNat_natCast, List.mem_append]
              left
              show b ∈ S.getD n []
              rw [ea2, ← he]
              exact List.getElem_mem hkl
            · rename_i he
              refine fin_lp ⟨k + 1, by omega, ?_⟩ ?_ ?_
              · rw [List.take_succ_eq_append_getElem hkl, List.mem_append, not_or]
                exact ⟨hkm, by simp only [List.mem_singleton]; exact fun h => he h.symm⟩
              · simp only [go_sem, Prod.eta, Option.isSome_none, Option.isSome_some, Int.toNat_zero, Nat.reduceAdd, Nat.reduceMul, Nat.reduceSub, Nat.reduceEqDiff, Nat.reduceLT, Nat.reduceLeDiff, Nat.reduceShiftRight, Nat.reduceMod, Nat.reduceBEq, reduceCtorEq, reduceIte, reduceDIte, Int.reduceNeg]
                first | rfl | omega
              · dsimp only; omega
          · rw [List.take_of_length_le (by omega)] at hkm
            (repeat' (with_reducible (first | refine And.intro ?_ ?_ | intro _))) <;> (try (first | with_reducible (first | done | assumption | omega | contradiction) | decide))
            refine fin_lp ⟨n + 1, by omega, fun m hm2 => ?_⟩ ?_ ?_
            · by_cases e : m = n
              · subst e; rw [ea2]; exact hkm
              · exact hm m (by omega)
            · simp only [go_sem, Prod.eta, Option.isSome_none, Option.isSome_some, Int.toNat_zero, Nat.reduceAdd, Nat.reduceMul, Nat.reduceSub, Nat.reduceEqDiff, Nat.reduceLT, Nat.reduceLeDiff, Nat.reduceShiftRight, Nat.reduceMod, Nat.reduceBEq, reduceCtorEq, reduceIte, reduceDIte, Int.reduceNeg]
              first | rfl | omega
            · dsimp only; omega
      · have hnS : ∀ m, b ∉ S.getD m [] := fun m => by
          by_cases e : m < n
          · exact hm m e
          · rw [getD_out (by omega)]; simp
        refine evk_loop ⟨{ n : Nat // n ≤ B.length ∧ ∀ m, m < n → b ∉ B.getD m [] }, 1000, fun n => [(1, .one (.int .i64 b)), (2, .one (.loc 70 0)), (4, .one (.loc 71 0)), (5, .one (.bool false)), (8, .one (.int .i64 n.1))], fun n => [(70, .cells 54 [.sl (.sl (.int .i64)) S false, .sl (.sl (.int .i64)) B false]), (71, .cells 76 [.int .i64 0, .int .i64 0])], fun n => B.length - n.1⟩ ⟨0, by simp, fun m hm => by omega⟩ ?_ ?_
        · simp only [go_sem, Prod.eta, Option.isSome_none, Option.isSome_some, Int.toNat_zero, Nat.reduceAdd, Nat.reduceMul, Nat.reduceSub, Nat.reduceEqDiff, Nat.reduceLT, Nat.reduceLeDiff, Nat.reduceShiftRight, Nat.reduceMod, Nat.reduceBEq, reduceCtorEq, reduceIte, reduceDIte, Int.reduceNeg]
          first | rfl | exact ⟨rfl, rfl⟩
        · rintro ⟨n, (hn : n ≤ B.length), (hmB : ∀ m, m < n → b ∉ B.getD m [])⟩
          (simp -implicitDefEqProofs only [go_sem, Prod.eta, Option.isSome_none, Option.isSome_some, Int.toNat_zero, Nat.reduceAdd, Nat.reduceMul, Nat.reduceSub, Nat.reduceEqDiff, Nat.reduceLT, Nat.reduceLeDiff, Nat.reduceShiftRight, Nat.reduceMod, Nat.reduceBEq, reduceCtorEq, reduceIte, reduceDIte, Int.reduceNeg, Bool.not_eq_true', Bool.not_eq_false', Bool.or_eq_true, Bool.or_eq_false_iff, Bool.and_eq_true, Bool.and_eq_false_iff, decide_eq_true_eq, decide_eq_false_iff_not, Classical.not_not, not_or, maxLen, con38, con14, hT, hG, hk, hK, Try.results38]); (try simp (disch := decide +kernel) only [drawn, true_and, and_true])
          refine fun _ => ⟨fun hlt => ?_, fun hge => ?_⟩
          · have hn1 : n < B.length := by omega
            have ea : ∀ z, B.getD (n : Int).toNat z = B[n] := fun z => by simp [hn1]
            have ea2 : B.getD n [] = B[n] := by simp [hn1]
            simp only [ea]
            (repeat' (with_reducible (first | refine And.intro ?_ ?_ | intro _))) <;> (try (first | with_reducible (first | done | assumption | omega | contradiction) | decide))
            · rename_i he
              refine ⟨((n, -1), true, ()), ((S, B), b, ()), ⟨fun _ => ⟨by simp only; omega, by simp only; omega, ?_⟩, fun h => (by cases h)⟩, rfl, rfl, rfl⟩
              show b ∈ rowsAt (S, B) (n : Int).toNat
              unfold rowsAt
              rw [Int.toNat_natCast, List.mem_append]
              right
              show b ∈ B.getD n []
              rw [ea2]
              exact he
            · rename_i he
              refine fin_lp ⟨n + 1, by omega, fun m hm2 => ?_⟩ ?_ ?_
              · by_cases e : m = n
                · subst e; rw [ea2]; exact he
                · exact hmB m (by omega)
              · simp only [go_sem, Prod.eta, Option.isSome_none, Option.isSome_some, Int.toNat_zero, Nat.reduceAdd, Nat.reduceMul, Nat.reduceSub, Nat.reduceEqDiff, Nat.reduceLT, Nat.reduceLeDiff, Nat.reduceShiftRight, Nat.reduceMod, Nat.reduceBEq, reduceCtorEq, reduceIte, reduceDIte, Int.reduceNeg]
                first | rfl | omega
              · dsimp only; omega
          · refine ⟨((0, 0), false, ()), ((S, B), b, ()), ⟨fun h => (by cases h), fun _ m hm2 => ?_⟩, rfl, rfl, rfl⟩
            unfold rowsAt at hm2
            rcases List.mem_append.1 hm2 with h | h
            · exact hnS m h
            · by_cases e : m < n
              · exact hmB m e h
              · have h' : b ∈ B.getD m [] := h
                rw [getD_out (by omega)] at h'; cases h')
end Go.Proofs.Ythbcniifeeoplaa

/- The contract of the reference's Breaches. -/
set_option linter.unusedSimpArgs false
set_option linter.unusedVariables false
set_option maxRecDepth 100000
set_option maxHeartbeats 4000000
namespace Go.Proofs.Ythbcniifeeoplaa
open Go.Ev

def con28 : Con := { ps := [.d true (.pair (.sl (.pair .str (.pair (.int .i64) (.pair (.int .i64) (.pair (.int .i64) (.sl (.int .i64))))))) (.sl (.pair (.int .i64) (.pair (.int .i64) (.int .i64))))), .d true (.pair (.sl (.sl (.int .i64))) (.sl (.sl (.int .i64)))), .d false (.sl (.int .i64))], rs := [.d false (.sl (.int .i64))], pre := fun (x : Lay × Pla × List Int × Unit) => Good x.2.1 ∧ x.2.1.1.length = x.1.1.length ∧ x.2.1.2.length = x.1.1.length, out := fun (x : Lay × Pla × List Int × Unit) => (refBr x.1.1 x.2.1 x.2.2.1, ()), nw := id }
theorem nums40_len : nums40.length = 40 := by unfold nums40; simp
theorem refBr_step (ns : List Nd) (p : Pla) (cl : List Int) (k : Nat) (h : k < 40) : (nums40.take (k + 1)).filter (fun b => decide (b ∈ brU ns p cl ns.length)) = (nums40.take k).filter (fun b => decide (b ∈ brU ns p cl ns.length)) ++ if ((k : Int) + 1) ∈ brU ns p cl ns.length then [(k : Int) + 1] else [] := by
  have hk : k < nums40.length := by rw [nums40_len]; exact h
  have e : nums40[k] = (k : Int) + 1 := by simp [nums40]
  rw [List.take_succ_eq_append_getElem hk, List.filter_append, e]
  by_cases m : ((k : Int) + 1) ∈ brU ns p cl ns.length <;> simp [m]
theorem c28 : CtrOk Try.prog 28 con28.ctr :=
  con_sound (G := ⟨[(14, con14.ctr)], [(38, con38.rctr)], []⟩) tab_ok (EnvOk.cons c14 has14 (EnvOk.rcons c38 has38 EnvOk.nil)) rfl Try.func28 rfl con28 137438959583 (by kernel_rfl) (by decide) (by decide) rfl (by decide) rfl (by
    rintro ⟨⟨(ns : List Nd), (ds : List Dv)⟩, ⟨(S : List (List Int)), (B : List (List Int))⟩, (cl : List Int), _⟩ hpre hwf X hT hG hk hK
    (simp -implicitDefEqProofs only [go_sem, Prod.eta, Option.isSome_none, Option.isSome_some, Int.toNat_zero, Nat.reduceAdd, Nat.reduceMul, Nat.reduceSub, Nat.reduceEqDiff, Nat.reduceLT, Nat.reduceLeDiff, Nat.reduceShiftRight, Nat.reduceMod, Nat.reduceBEq, reduceCtorEq, reduceIte, reduceDIte, Int.reduceNeg, Bool.not_eq_true', Bool.not_eq_false', Bool.or_eq_true, Bool.or_eq_false_iff, Bool.and_eq_true, Bool.and_eq_false_iff, decide_eq_true_eq, decide_eq_false_iff_not, Classical.not_not, not_or, maxLen, con28, con14, con38, hT, hG, hk, hK, Try.results28] at hwf ⊢); (try simp (disch := decide +kernel) only [drawn, true_and, and_true])
    obtain ⟨hg, h1, h2⟩ : Good (S, B) ∧ S.length = ns.length ∧ B.length = ns.length := hpre
    refine evk_loop ⟨{ k : Nat // k ≤ 40 }, 1000, fun k => [(2, .one (.sl (.int .i64) cl false)), (3, .one (.loc 70 0)), (4, .one (.loc 71 0)), (7, .one (.row 64)), (8, .one (.int .i64 ((k.1 : Int) + 1)))], fun k => [(70, .cells 50 [.sl (.pair .str (.pair (.int .i64) (.pair (.int .i64) (.pair (.int .i64) (.sl (.int .i64)))))) ns false, .sl (.pair (.int .i64) (.pair (.int .i64) (.int .i64))) ds false]), (71, .cells 54 [.sl (.sl (.int .i64)) S false, .sl (.sl (.int .i64)) B false]), (64, .row 3 (.int .i64) ((nums40.take k.1).filter (fun b => decide (b ∈ brU ns (S, B) cl ns.length))))], fun k => 40 - k.1⟩ ⟨0, by simp⟩ ?_ ?_
    · simp only [go_sem, Prod.eta, Option.isSome_none, Option.isSome_some, Int.toNat_zero, Nat.reduceAdd, Nat.reduceMul, Nat.reduceSub, Nat.reduceEqDiff, Nat.reduceLT, Nat.reduceLeDiff, Nat.reduceShiftRight, Nat.reduceMod, Nat.reduceBEq, reduceCtorEq, reduceIte, reduceDIte, Int.reduceNeg]
      first | rfl | exact ⟨rfl, rfl⟩
    · rintro ⟨k, (hkk : k ≤ 40)⟩
      (simp -implicitDefEqProofs only [go_sem, Prod.eta, Option.isSome_none, Option.isSome_some, Int.toNat_zero, Nat.reduceAdd, Nat.reduceMul, Nat.reduceSub, Nat.reduceEqDiff, Nat.reduceLT, Nat.reduceLeDiff, Nat.reduceShiftRight, Nat.reduceMod, Nat.reduceBEq, reduceCtorEq, reduceIte, reduceDIte, Int.reduceNeg, Bool.not_eq_true', Bool.not_eq_false', Bool.or_eq_true, Bool.or_eq_false_iff, Bool.and_eq_true, Bool.and_eq_false_iff, decide_eq_true_eq, decide_eq_false_iff_not, Classical.not_not, not_or, maxLen, con28, con14, con38, hT, hG, hk, hK, Try.results28]); (try simp (disch := decide +kernel) only [drawn, true_and, and_true])
      have hfl : ((nums40.take k).filter (fun b => decide (b ∈ brU ns (S, B) cl ns.length))).length ≤ 40 := Nat.le_trans (List.length_filter_le _ _) (by rw [List.length_take, nums40_len]; omega)
      refine ⟨fun hle => ?_, fun hgt => ?_⟩
      · have hst := refBr_step ns (S, B) cl k (by omega)
        refine ⟨⟨by omega, by omega⟩, fun y hy => ?_⟩
        obtain ⟨⟨⟨(at' : Int), (wn : Int)⟩, (ok : Bool), u⟩, z⟩ := y
        obtain ⟨⟨hy1, hy2⟩, _⟩ := hy
        have hy1 : ok = true → 0 ≤ at' ∧ at' < S.length ∧ (k : Int) + 1 ∈ rowsAt (S, B) at'.toNat := hy1
        have hy2 : ok = false → ∀ n, (k : Int) + 1 ∉ rowsAt (S, B) n := hy2
        have hkey : ((k : Int) + 1) ∈ brU ns (S, B) cl ns.length ↔ (ok = true ∧ zoneAt ns at'.toNat = 1) ∧ (k : Int) + 1 ∉ cl := by
          rw [brU_mem]
          constructor
          · rintro ⟨n, g1, g2, g3, g4, g5⟩
            cases ok with
            | false => exact absurd g3 (hy2 rfl n)
            | true =>
              have e := hg.one n at'.toNat _ g4 g3 (hy1 rfl).2.2
              rw [← e]
              exact ⟨⟨rfl, g2⟩, g5⟩
          · rintro ⟨⟨g1, g2⟩, g5⟩
            obtain ⟨q1, q2, q3⟩ := hy1 g1
            exact ⟨at'.toNat, by omega, g2, q3, by omega, g5⟩
        unfold zoneAt at hkey
        have hb : ok = true → 0 ≤ at' ∧ at' < ns.length := fun h => by have := hy1 h; omega
        by_cases hm : ((k : Int) + 1) ∈ brU ns (S, B) cl ns.length
        · rw [if_pos hm] at hst
          have hm2 := hkey.1 hm
          dsimp only
          refine ⟨hb, fun _ _ => ⟨fun _ => ⟨Nat.le_trans (Nat.mul_le_mul_right 8 (Nat.succ_le_succ hfl)) (by decide), ⟨by omega, by omega⟩, ?_⟩, fun hn => by
            rcases hn with (h | h) | h
            · rw [hm2.1.1] at h; cases h
            · exact absurd hm2.1.2 h
            · exact absurd h hm2.2⟩⟩
          refine fin_lp ⟨k + 1, by omega⟩ ?_ (by dsimp only; omega)
          simp only [go_sem, Prod.eta, Option.isSome_none, Option.isSome_some, Int.toNat_zero, Nat.reduceAdd, Nat.reduceMul, Nat.reduceSub, Nat.reduceEqDiff, Nat.reduceLT, Nat.reduceLeDiff, Nat.reduceShiftRight, Nat.reduceMod, Nat.reduceBEq, reduceCtorEq, reduceIte, reduceDIte, Int.reduceNeg]
          rw [hst]
          and_intros <;> first | rfl | omega
        · rw [if_neg hm, List.append_nil] at hst
          have hm2 := fun h => hm (hkey.2 h)
          dsimp only
          refine ⟨hb, fun _ _ => ⟨fun hn => absurd hn hm2, fun _ => ⟨⟨by omega, by omega⟩, ?_⟩⟩⟩
          refine fin_lp ⟨k + 1, by omega⟩ ?_ (by dsimp only; omega)
          simp only [go_sem, Prod.eta, Option.isSome_none, Option.isSome_some, Int.toNat_zero, Nat.reduceAdd, Nat.reduceMul, Nat.reduceSub, Nat.reduceEqDiff, Nat.reduceLT, Nat.reduceLeDiff, Nat.reduceShiftRight, Nat.reduceMod, Nat.reduceBEq, reduceCtorEq, reduceIte, reduceDIte, Int.reduceNeg]
          rw [hst]
          and_intros <;> first | rfl | omega
      · have hk40 : k = 40 := by omega
        subst hk40
        rw [List.take_of_length_le (by rw [nums40_len]; exact Nat.le_refl _)]
        unfold refBr
        first | rfl | skip)
end Go.Proofs.Ythbcniifeeoplaa

/- The contract of custody.Breaches. (UNDER WAY: does not build yet.) -/
set_option linter.unusedSimpArgs false
set_option linter.unusedVariables false
set_option maxRecDepth 100000
set_option maxHeartbeats 4000000
namespace Go.Proofs.Ythbcniifeeoplaa
open Go.Ev

def con27 : Con := { ps := [.d true (.pair (.sl (.pair .str (.pair (.int .i64) (.pair (.int .i64) (.pair (.int .i64) (.sl (.int .i64))))))) (.sl (.pair (.int .i64) (.pair (.int .i64) (.int .i64))))), .d true (.pair (.sl (.sl (.int .i64))) (.sl (.sl (.int .i64)))), .d false (.sl (.int .i64))], rs := [.d false (.sl (.int .i64))], pre := fun (x : Lay × Pla × List Int × Unit) => Good x.2.1 ∧ x.1.1.length ≤ 12 ∧ x.2.1.1.length = x.1.1.length ∧ x.2.1.2.length = x.1.1.length, out := fun (x : Lay × Pla × List Int × Unit) => (sortI (brU x.1.1 x.2.1 x.2.2.1 x.1.1.length), ()), nw := id }
theorem c27 : CtrOk Try.prog 27 con27.ctr :=
  con_sound (G := ⟨[(30, con30.ctr), (37, con37.ctr)], [], []⟩) tab_ok (EnvOk.cons c30 has30 (EnvOk.cons c37 has37 EnvOk.nil)) rfl Try.func27 rfl con27 288760405318981599 (by kernel_rfl) (by decide) (by decide) rfl (by decide) rfl (by
    rintro ⟨⟨(ns : List Nd), (ds : List Dv)⟩, ⟨(S : List (List Int)), (B : List (List Int))⟩, (cl : List Int), _⟩ hpre hwf X hT hG hk hK
    (simp -implicitDefEqProofs only [go_sem, Prod.eta, Option.isSome_none, Option.isSome_some, Int.toNat_zero, Nat.reduceAdd, Nat.reduceMul, Nat.reduceSub, Nat.reduceEqDiff, Nat.reduceLT, Nat.reduceLeDiff, Nat.reduceShiftRight, Nat.reduceMod, Nat.reduceBEq, reduceCtorEq, reduceIte, reduceDIte, Int.reduceNeg, Bool.not_eq_true', Bool.not_eq_false', Bool.or_eq_true, Bool.or_eq_false_iff, Bool.and_eq_true, Bool.and_eq_false_iff, decide_eq_true_eq, decide_eq_false_iff_not, Classical.not_not, not_or, maxLen, con27, con30, con37, hT, hG, hk, hK, Try.results27] at hwf ⊢); (try simp (disch := decide +kernel) only [drawn, true_and, and_true])
    obtain ⟨hg, h0, h1, h2⟩ : Good (S, B) ∧ ns.length ≤ 12 ∧ S.length = ns.length ∧ B.length = ns.length := hpre
    refine fun _ => ?_
    refine evk_loop ⟨{ n : Nat // n ≤ ns.length }, 1000, fun n => [(4, .one (.loc 71 0)), (7, .one (.map 66)), (8, .one (.row 64)), (18, .one (.sl (.pair .str (.pair (.int .i64) (.pair (.int .i64) (.pair (.int .i64) (.sl (.int .i64)))))) ns false)), (19, .one (.int .i64 ns.length)), (20, .one (.int .i64 n.1))], fun n => [(71, .cells 54 [.sl (.sl (.int .i64)) S false, .sl (.sl (.int .i64)) B false]), (66, .mapb (.int .i64) .bool false false (setOf cl)), (64, .row 3 (.int .i64) (brU ns (S, B) cl n.1))], fun n => ns.length - n.1⟩ ⟨0, by simp⟩ ?_ ?_
    · simp only [go_sem, Prod.eta, Option.isSome_none, Option.isSome_some, Int.toNat_zero, Nat.reduceAdd, Nat.reduceMul, Nat.reduceSub, Nat.reduceEqDiff, Nat.reduceLT, Nat.reduceLeDiff, Nat.reduceShiftRight, Nat.reduceMod, Nat.reduceBEq, reduceCtorEq, reduceIte, reduceDIte, Int.reduceNeg]
      first | rfl | exact ⟨rfl, rfl⟩
    · rintro ⟨n, (hn : n ≤ ns.length)⟩
      (simp -implicitDefEqProofs only [go_sem, Prod.eta, Option.isSome_none, Option.isSome_some, Int.toNat_zero, Nat.reduceAdd, Nat.reduceMul, Nat.reduceSub, Nat.reduceEqDiff, Nat.reduceLT, Nat.reduceLeDiff, Nat.reduceShiftRight, Nat.reduceMod, Nat.reduceBEq, reduceCtorEq, reduceIte, reduceDIte, Int.reduceNeg, Bool.not_eq_true', Bool.not_eq_false', Bool.or_eq_true, Bool.or_eq_false_iff, Bool.and_eq_true, Bool.and_eq_false_iff, decide_eq_true_eq, decide_eq_false_iff_not, Classical.not_not, not_or, maxLen, con27, con30, con37, hT, hG, hk, hK, Try.results27]); (try simp (disch := decide +kernel) only [drawn, true_and, and_true])
      have hbl := brU_len (ns := ns) (cl := cl) hg n
      refine ⟨fun hlt => ?_, fun hge => ?_⟩
      · have hn1 : n < ns.length := by omega
        have ea : ∀ z, ns.getD (n : Int).toNat z = ns[n] := fun z => by simp [hn1]
        have hz : zoneAt ns n = ns[n].2.2.2.1 := by unfold zoneAt; simp [hn1]
        simp only [ea]
        refine ⟨by omega, fun _ _ => ⟨fun hz1 => ⟨by omega, ?_⟩, fun hz1 => ?_⟩⟩
        · have e : brU ns (S, B) cl (n + 1) = brU ns (S, B) cl n := by
            rw [brU, brRow, if_neg (by rw [hz]; exact hz1), List.append_nil]
          refine fin_lp ⟨n + 1, by omega⟩ ?_ (by dsimp only; omega)
          simp only [go_sem, Prod.eta, Option.isSome_none, Option.isSome_some, Int.toNat_zero, Nat.reduceAdd, Nat.reduceMul, Nat.reduceSub, Nat.reduceEqDiff, Nat.reduceLT, Nat.reduceLeDiff, Nat.reduceShiftRight, Nat.reduceMod, Nat.reduceBEq, reduceCtorEq, reduceIte, reduceDIte, Int.reduceNeg]
          rw [e]
          and_intros <;> first | rfl | omega
        · intro _
          have es : S.getD n [] = S[n] := by simp [h1, hn1]
          have eb : B.getD n [] = B[n] := by simp [h2, hn1]
          have ebr : brU ns (S, B) cl (n + 1) = brU ns (S, B) cl n ++ (S[n].filter (okB cl) ++ B[n].filter (okB cl)) := by
            rw [brU, brRow, if_pos (by rw [hz]; exact hz1), rowsAt, List.filter_append]
            show _ ++ (List.filter _ (S.getD n []) ++ List.filter _ (B.getD n [])) = _
            rw [es, eb]
          have hLs : ∀ j : Nat, j < 2 → ([S, B].getD j []).getD n [] = if j = 0 then S[n] else B[n] := fun j hj => by
            rcases (by omega : j = 0 ∨ j = 1) with rfl | rfl
            · exact es
            · exact eb
          refine evk_loop ⟨{ j : Nat // j ≤ 2 }, 2000, fun j => [(4, .one (.loc 71 0)), (7, .one (.map 66)), (8, .one (.row 64)), (9, .one (.int .i64 n)), (18, .one (.sl (.pair .str (.pair (.int .i64) (.pair (.int .i64) (.pair (.int .i64) (.sl (.int .i64)))))) ns false)), (19, .one (.int .i64 ns.length)), (20, .one (.int .i64 n)), (32, .one (.row 65)), (33, .one (.int .i64 2)), (34, .one (.int .i64 j.1))], fun j => [(71, .cells 54 [.sl (.sl (.int .i64)) S false, .sl (.sl (.int .i64)) B false]), (66, .mapb (.int .i64) .bool false false (setOf cl)), (64, .row 3 (.int .i64) (brU ns (S, B) cl n ++ (([S[n], B[n]].take j.1).flatten.filter (okB cl)))), (65, .row 52 (.sl (.sl (.int .i64))) [S, B])], fun j => 2 - j.1⟩ ⟨0, by simp⟩ ?_ ?_
          · simp only [go_sem, Prod.eta, Option.isSome_none, Option.isSome_some, Int.toNat_zero, Nat.reduceAdd, Nat.reduceMul, Nat.reduceSub, Nat.reduceEqDiff, Nat.reduceLT, Nat.reduceLeDiff, Nat.reduceShiftRight, Nat.reduceMod, Nat.reduceBEq, reduceCtorEq, reduceIte, reduceDIte, Int.reduceNeg]
            exact ⟨by simp, rfl, rfl⟩
          · rintro ⟨j, (hj : j ≤ 2)⟩
            (simp -implicitDefEqProofs only [go_sem, Prod.eta, Option.isSome_none, Option.isSome_some, Int.toNat_zero, Nat.reduceAdd, Nat.reduceMul, Nat.reduceSub, Nat.reduceEqDiff, Nat.reduceLT, Nat.reduceLeDiff, Nat.reduceShiftRight, Nat.reduceMod, Nat.reduceBEq, reduceCtorEq, reduceIte, reduceDIte, Int.reduceNeg, Bool.not_eq_true', Bool.not_eq_false', Bool.or_eq_true, Bool.or_eq_false_iff, Bool.and_eq_true, Bool.and_eq_false_iff, decide_eq_true_eq, decide_eq_false_iff_not, Classical.not_not, not_or, maxLen, con27, con30, con37, hT, hG, hk, hK, Try.results27]); (try simp (disch := decide +kernel) only [drawn, true_and, and_true])
            refine ⟨fun hj2 => ?_, fun hj2 => ?_⟩
            · have hj3 : j < 2 := by omega
              obtain ⟨M, L, eM, eL, hML, eN⟩ : ∃ (M : List (List Int)) (L : List Int), [S, B].getD (j : Int).toNat [] = M ∧ M.getD (n : Int).toNat [] = L ∧ M.length = ns.length ∧ (List.take (j + 1) [S[n], B[n]]).flatten.filter (okB cl) = (List.take j [S[n], B[n]]).flatten.filter (okB cl) ++ L.filter (okB cl) := by
                rcases (by omega : j = 0 ∨ j = 1) with rfl | rfl
                · exact ⟨S, S[n], rfl, es, h1, by simp⟩
                · exact ⟨B, B[n], rfl, eb, h2, by simp⟩
              simp only [eM, eL]
              have hlen : (brU ns (S, B) cl n ++ (List.take j [S[n], B[n]]).flatten.filter (okB cl)).length + (L.filter (okB cl)).length ≤ 65 := by
                have hb2 := brU_len (ns := ns) (cl := cl) hg (n + 1)
                rw [ebr] at hb2
                have : (List.take j [S[n], B[n]]).flatten.filter (okB cl) ++ L.filter (okB cl) = (List.take (j + 1) [S[n], B[n]]).flatten.filter (okB cl) := eN.symm
                have h3 : ((List.take (j + 1) [S[n], B[n]]).flatten.filter (okB cl)).length ≤ ((S[n].filter (okB cl) ++ B[n].filter (okB cl))).length := by
                  rcases (by omega : j = 0 ∨ j = 1) with rfl | rfl <;> simp
                rw [← this] at h3
                simp only [List.length_append] at hb2 h3 ⊢
                omega
              generalize hpre2 : brU ns (S, B) cl n ++ (List.take j [S[n], B[n]]).flatten.filter (okB cl) = pre at hlen ⊢
              refine ⟨⟨by omega, by omega⟩, fun _ => ⟨⟨by omega, by omega⟩, fun hwM _ => ⟨fun hge => by omega, fun _ => ⟨⟨by omega, by omega⟩, fun _ hwL _ => ?_⟩⟩⟩⟩
              refine evk_loop ⟨{ k : Nat // k ≤ L.length }, 3000, fun k => [(4, .one (.loc 71 0)), (7, .one (.map 66)), (8, .one (.row 64)), (9, .one (.int .i64 n)), (18, .one (.sl (.pair .str (.pair (.int .i64) (.pair (.int .i64) (.pair (.int .i64) (.sl (.int .i64)))))) ns false)), (19, .one (.int .i64 ns.length)), (20, .one (.int .i64 n)), (32, .one (.row 65)), (33, .one (.int .i64 2)), (34, .one (.int .i64 j)), (45, .one (.sl (.int .i64) L false)), (46, .one (.int .i64 L.length)), (47, .one (.int .i64 k.1))], fun k => [(71, .cells 54 [.sl (.sl (.int .i64)) S false, .sl (.sl (.int .i64)) B false]), (66, .mapb (.int .i64) .bool false false (setOf cl)), (64, .row 3 (.int .i64) (pre ++ (L.take k.1).filter (okB cl))), (65, .row 52 (.sl (.sl (.int .i64))) [S, B])], fun k => L.length - k.1⟩ ⟨0, by simp⟩ ?_ ?_
              · simp only [go_sem, Prod.eta, Option.isSome_none, Option.isSome_some, Int.toNat_zero, Nat.reduceAdd, Nat.reduceMul, Nat.reduceSub, Nat.reduceEqDiff, Nat.reduceLT, Nat.reduceLeDiff, Nat.reduceShiftRight, Nat.reduceMod, Nat.reduceBEq, reduceCtorEq, reduceIte, reduceDIte, Int.reduceNeg]
                simp
              · rintro ⟨k, (hkk : k ≤ L.length)⟩
                (simp -implicitDefEqProofs only [go_sem, Prod.eta, Option.isSome_none, Option.isSome_some, Int.toNat_zero, Nat.reduceAdd, Nat.reduceMul, Nat.reduceSub, Nat.reduceEqDiff, Nat.reduceLT, Nat.reduceLeDiff, Nat.reduceShiftRight, Nat.reduceMod, Nat.reduceBEq, reduceCtorEq, reduceIte, reduceDIte, Int.reduceNeg, Bool.not_eq_true', Bool.not_eq_false', Bool.or_eq_true, Bool.or_eq_false_iff, Bool.and_eq_true, Bool.and_eq_false_iff, decide_eq_true_eq, decide_eq_false_iff_not, Classical.not_not, not_or, maxLen, con27, con30, con37, hT, hG, hk, hK, Try.results27]); (try simp (disch := decide +kernel) only [drawn, true_and, and_true])
                simp only [setOf_get]
                refine ⟨fun hlt2 => ?_, fun hge2 => ?_⟩
                · have hkl : k < L.length := by omega
                  have ek : ∀ z, L.getD (k : Int).toNat z = L[k] := fun z => by simp [hkl]
                  simp only [ek]
                  have hfl : ((L.take k).filter (okB cl)).length ≤ (L.filter (okB cl)).length := ((List.take_sublist k L).filter (okB cl)).length_le
                  have hst : (L.take (k + 1)).filter (okB cl) = (L.take k).filter (okB cl) ++ if okB cl L[k] = true then [L[k]] else [] := by
                    rw [List.take_succ_eq_append_getElem hkl, List.filter_append]
                    by_cases q : okB cl L[k] = true <;> simp [q]
                  have hkey : (¬ L[k] = 0 ∧ (if L[k] ∈ cl then some true else none).getD false = false) ↔ okB cl L[k] = true := by
                    unfold okB
                    by_cases q1 : L[k] ∈ cl <;> simp [q1]
                  refine ⟨⟨by omega, by omega⟩, fun _ _ => ⟨fun hy => ?_, fun hy => ?_⟩⟩
                  · rw [if_pos (hkey.1 hy)] at hst
                    refine ⟨by simp only [List.length_append]; omega, ⟨by omega, by omega⟩, ?_⟩
                    refine fin_lp ⟨k + 1, by omega⟩ ?_ (by dsimp only; omega)
                    simp only [go_sem, Prod.eta, Option.isSome_none, Option.isSome_some, Int.toNat_zero, Nat.reduceAdd, Nat.reduceMul, Nat.reduceSub, Nat.reduceEqDiff, Nat.reduceLT, Nat.reduceLeDiff, Nat.reduceShiftRight, Nat.reduceMod, Nat.reduceBEq, reduceCtorEq, reduceIte, reduceDIte, Int.reduceNeg]
                    rw [hst]
                    and_intros <;> first | rfl | omega | simp
                  · rw [if_neg (fun q => (by have := hkey.2 q; rcases hy with h | h; exact absurd h this.1; rw [this.2] at h; cases h)), List.append_nil] at hst
                    refine ⟨⟨by omega, by omega⟩, ?_⟩
                    refine fin_lp ⟨k + 1, by omega⟩ ?_ (by dsimp only; omega)
                    simp only [go_sem, Prod.eta, Option.isSome_none, Option.isSome_some, Int.toNat_zero, Nat.reduceAdd, Nat.reduceMul, Nat.reduceSub, Nat.reduceEqDiff, Nat.reduceLT, Nat.reduceLeDiff, Nat.reduceShiftRight, Nat.reduceMod, Nat.reduceBEq, reduceCtorEq, reduceIte, reduceDIte, Int.reduceNeg]
                    rw [hst]
                    and_intros <;> first | rfl | omega | simp
                · have ekl : k = L.length := by omega
                  subst ekl
                  refine ⟨⟨by omega, by omega⟩, ?_⟩
                  refine fin_lp ⟨j + 1, by omega⟩ ?_ (by dsimp only; omega)
                  simp only [go_sem, Prod.eta, Option.isSome_none, Option.isSome_some, Int.toNat_zero, Nat.reduceAdd, Nat.reduceMul, Nat.reduceSub, Nat.reduceEqDiff, Nat.reduceLT, Nat.reduceLeDiff, Nat.reduceShiftRight, Nat.reduceMod, Nat.reduceBEq, reduceCtorEq, reduceIte, reduceDIte, Int.reduceNeg]
                  have eN2 : (S[n] :: List.take j [B[n]]).flatten.filter (okB cl) = (List.take j [S[n], B[n]]).flatten.filter (okB cl) ++ L.filter (okB cl) := eN
                  rw [eN2, List.take_length, ← hpre2, List.append_assoc]
                  and_intros <;> first | rfl | omega | simp
            · have ej : j = 2 := by omega
              subst ej
              have en : (List.take 2 [S[n], B[n]]).flatten.filter (okB cl) = S[n].filter (okB cl) ++ B[n].filter (okB cl) := by simp
              rw [en, ← ebr]
              refine ⟨⟨by omega, by omega⟩, ?_⟩
              refine fin_lp ⟨n + 1, by omega⟩ ?_ (by dsimp only; omega)
              simp only [go_sem, Prod.eta, Option.isSome_none, Option.isSome_some, Int.toNat_zero, Nat.reduceAdd, Nat.reduceMul, Nat.reduceSub, Nat.reduceEqDiff, Nat.reduceLT, Nat.reduceLeDiff, Nat.reduceShiftRight, Nat.reduceMod, Nat.reduceBEq, reduceCtorEq, reduceIte, reduceDIte, Int.reduceNeg]
              and_intros <;> first | rfl | omega
      · have e : n = ns.length := by omega
        subst e
        exact ⟨by omega, rfl⟩)
end Go.Proofs.Ythbcniifeeoplaa
