/- The library's sorts, as contracts: a row is sorted in place. -/
import Derived.Test.YtfhbjmoegceelaaEvFun4ToBox
import Derived.Shelf.SortM.Plain
import Derived.Shelf.SortM.SortNone
import Derived.Shelf.SlSortCmp.WholeK
import Derived.Shelf.SlSortCmp.NoneTotal
import Derived.Test.YtfhbjmoegceelaaCpDToF
import Derived.Test.YtfhbjmoegceelaaCpLay
set_option linter.unusedSimpArgs false
set_option linter.unusedVariables false
namespace Go.Ev
open Go.Sort (putCells putRow mapBlock onCells grow Holds)

section
variable {cx : Cx} {σ : Nat → Value} {N : Nat → Prop} {m : Mem} {w : World} {P : Program}

theorem putCells_list (F cur : Array Value) (h : F.size ≤ cur.size) : (putCells id 0 F cur).toList = F.toList ++ cur.toList.drop F.size := by
 apply List.ext_getElem
 · simp [putCells]; omega
 · intro k h1 h2
   have hk : k < cur.size := by simpa [putCells] using h1
   simp only [putCells, Array.getElem_toList, Array.getElem_mapIdx, List.getElem_append, Array.length_toList, List.getElem_drop, Nat.zero_le, true_and, Nat.zero_add, Nat.sub_zero, id]
   split
   · rename_i hlt
     exact getElem!_pos F k hlt
   · rename_i hlt
     congr 1; omega

theorem putRow_map {α : Type} [Inhabited α] (enc : α → Value) (w : World) (g : Nat) (d : Array α) : putRow enc w g 0 d = putRow id w g 0 (d.map enc) := by
 unfold putRow
 refine Go.Sort.mapBlock_congr _ _ _ _ fun c _ _ _ => ?_
 apply Array.ext
 · simp [putCells]
 · intro k h1 h2
   simp only [putCells, Array.getElem_mapIdx, Array.size_map, Nat.sub_zero, id]
   split
   · rename_i hlt
     rw [getElem!_pos d k (by omega), getElem!_pos (d.map enc) k (by simp; omega)]
     simp
   · rfl

/-- The world behind a sort. -/
structure Sorted (w w' : World) (g : Nat) (e : TypeId) (cur : Array Value) (F : Array Value) : Prop where
 os : w'.os = w.os
 tape : w'.tape = w.tape
 output : w'.output = w.output
 size : w.heap.size ≤ w'.heap.size
 drawn : w.drawn ≤ w'.drawn
 block : ∀ b, b < w.heap.size → b ≠ g → w'.heap[b]? = w.heap[b]?
 row : ∃ cur' : Array Value, w'.heap[g]? = some (.cells cur' e (0, 0)) ∧ cur'.toList = F.toList ++ cur.toList.drop F.size

theorem sorted_world {g : Nat} {e : TypeId} {cur F : Array Value} (hg : w.heap[g]? = some (.cells cur e (0, 0))) (hF : F.size ≤ cur.size) (n : Nat) (os : Array Obj) : Sorted w (grow (putRow id (Go.Sort.ahead w n) g 0 F) os) g e cur F := by
 have hlt : g < w.heap.size := (Array.getElem?_eq_some_iff.1 hg).1
 refine ⟨rfl, rfl, rfl, by simp, by simp [grow, putRow, mapBlock, Go.Sort.ahead], fun b hb hne => ?_, putCells id 0 F cur, ?_, putCells_list F cur hF⟩
 · rw [Go.Sort.heap_grow_old _ _ (by simpa using hb)]
   simp [putRow, mapBlock, Go.Sort.ahead, Array.getElem?_modify, Ne.symm hne]
 · rw [Go.Sort.heap_grow_old _ _ (by simpa using hlt)]
   simp [putRow, mapBlock, Go.Sort.ahead, Array.getElem?_modify, hg, onCells]

/-- The state behind a sort. -/
theorem row_sorted (h : RepM cx σ N m w) {id : Nat} (hn : ¬ N id) {e : TypeId} {t : Ty} {xs : List t.den} (hm : m id = .row e t xs) {g cap : Nat} {cur : Array Value} (hσ : σ id = .slice (some ⟨g, 0, none⟩) xs.length cap) (hc : 0 < cap)
 (hg : w.heap[g]? = some (.cells cur e (0, 0))) (hlc : xs.length ≤ cap) (hcm : cap ≤ maxLen) (hcs : cur.size = cap * t.n) {xs' : List t.den} (hl : xs'.length = xs.length) {F : Array Value} (hF : roAll (ro w (Owned cx σ m) t) xs' F.toList) {w' : World} (hw : Sorted w w' g e cur F) (fr : Nat) (p : Prop) {q : Prop} (hq : q) :
 Res cx σ N m w fr ⟨p, .tup [], [(id, .row e t xs')], q⟩ (.tuple #[]) w' := by
 have hFl := roAll_len (fun x c => ro_len t x c) _ _ hF
 rw [Array.length_toList] at hFl
 obtain ⟨cur', hg', hcur'⟩ := hw.row
 obtain ⟨g1, g2⟩ := h.step (σ' := σ) (N' := Nx N fr) (m' := upd m id (.row e t xs')) (w' := w') (fun i => i = id) (fun _ k => k.1)
  (fun i k => by
    by_cases hi : i = id
    · subst hi; exact absurd k.1 hn
    · rw [upd_ne _ _ hi]; exact h.fresh i k.1)
  (fun i k => ⟨upd_ne _ _ k, rfl⟩) (fun _ _ => rfl)
  (fun b hb hx => hw.block b hb (fun e' => hx id rfl (by rw [hm]; rfl) (by rw [hσ, e']; exact .inl (blkOf_slice hc)))) ⟨hw.size, hw.drawn⟩ hw.os hw.tape hw.output
  (fun i b hi _ hb => .inr ⟨id, rfl, by rw [hm]; rfl, by rw [← hi]; exact hb⟩)
  (fun i i' b hi hi' _ _ _ _ => hi.trans hi'.symm) (fun i _ => h.hone i)
  (fun hk i hi => by
    subst hi
    rw [upd_same]
    have hfit : xs.length * t.n ≤ cap * t.n := Nat.mul_le_mul_right _ hlc
    refine ⟨xs'.length, F.toList, rfl, ?_, roAll_mono (ro_keep hk.k t) _ _ hF⟩
    simp only [rx]
    rw [hσ, ← hl]
    refine rowR_of (by rw [Array.length_toList, hFl]) hg' (by omega) hcm ?_ ?_
    · rw [← Array.length_toList, hcur']
      simp only [List.length_append, Array.length_toList, List.length_drop, hcs, hFl, hl]
      omega
    · rw [hcur', ← hFl, ← Array.length_toList]
      exact List.take_left)
 refine ⟨σ, g1, g2, ?_, hq⟩
 unfold repA
 exact ⟨[], rfl, by unfold repAs; rfl⟩

def sortI (xs : List Int) : List Int := xs.mergeSort fun x y => decide (x ≤ y)

theorem ro_ints {O : Nat → Prop} {k : IntKind} : ∀ (xs : List Int) (flat : List Value), roAll (ro w O (.int k)) xs flat → flat = xs.map (Value.int k) ∧ ∀ x ∈ xs, InR k x
 | [], flat, h => ⟨h, by simp⟩
 | x :: xs, _, ⟨c, d, e, h, hr⟩ => by
   obtain ⟨h1, h2⟩ := ro_ints xs d hr
   obtain ⟨g1, g2⟩ := h
   refine ⟨by rw [e, g1, h1]; rfl, fun y hy => ?_⟩
   rcases List.mem_cons.1 hy with rfl | hy
   · exact g2
   · exact h2 y hy
theorem ints_ro {O : Nat → Prop} {k : IntKind} : ∀ (xs : List Int), (∀ x ∈ xs, InR k x) → roAll (ro w O (.int k)) xs (xs.map (Value.int k))
 | [], _ => rfl
 | x :: xs, h => ⟨[.int k x], _, rfl, ⟨rfl, h x List.mem_cons_self⟩, ints_ro xs fun y hy => h y (List.mem_cons_of_mem _ hy)⟩

/-- slices.Sort at ints. -/
def sortCon (e : TypeId) : Con := { ps := [.o e (.int .i64)], rs := [], pre := fun x => x.1.length < 4611686018427387904, out := fun _ => (), nw := fun x => (sortI x.1, ()) }
theorem sort_int {ρ : Go.Shelf.Ren} (L : Go.Proofs.SlLaysM.n5 P ρ) (e : TypeId) : CtrOk P (ρ.f 5) (sortCon e).ctr := by
 intro D gv hDS cx hcd σ N m w fr avs vs h hfr hreps hp
 unfold Con.ctr Con.effO at hp ⊢
 cases hrd : rds m (sortCon e).ps avs with
 | none => rw [hrd] at hp; exact hp.elim
 | some x =>
   rw [hrd] at hp
   simp only at hp ⊢
   split at hp
   · rename_i hid
     rw [if_pos hid]
     obtain ⟨xs, u⟩ := x
     cases u
     match avs, hrd, hreps, hid with
     | [v], hrd, hreps, hid =>
       simp only [sortCon, rds] at hrd
       obtain ⟨h1, _⟩ := implP_some hrd
       obtain ⟨id, rfl, h2⟩ := rd_o h1
       have hm := rdRow_some h2
       unfold repAs at hreps
       obtain ⟨v0, r, rfl, h3, h4⟩ := hreps
       unfold repAs at h4
       subst h4
       unfold repA repC at h3
       obtain ⟨hn, rfl⟩ := h3
       simp only [rx] at hn ⊢
       have hsz : xs.length < 4611686018427387904 := hp
       have goal_eff : ∀ (w' : World), Res cx σ N m w fr ⟨xs.length < 4611686018427387904, .tup [], [(id, .row e (.int .i64) (sortI xs))], True⟩ (.tuple #[]) w' →
        ∃ v, Ending.returned (.tuple #[]) = .returned v ∧ Res cx σ N m w fr ((sortCon e).eff [.one (.row id)] m fr (xs, ())) v w' := fun w' hr => ⟨_, rfl, hr⟩
       have hb := h.blk id
       rw [hm] at hb
       obtain ⟨n', flat, rfl, k1, k2⟩ := hb
       simp only [rx] at k1 k2
       obtain ⟨hfl, hin⟩ := ro_ints xs flat k2
       rcases k1.2 with ⟨e2, a0, e1⟩ | ⟨g, cap, cur, hc, e1, hg, hlc, hcm, hcs, htk⟩
       · have hx : xs = [] := List.eq_nil_of_length_eq_zero e2
         subst hx
         rw [e1]
         refine (Go.Proofs.AnyM.slices_Sort_int_none L a0 0 w).mono ?_
         rintro e' w' ⟨rfl, rfl⟩
         refine goal_eff _ ?_
         have hs : sortI [] = [] := by simp [sortI]
         rw [hs]
         obtain ⟨g1, g2⟩ := h.weaken (N' := Nx N fr) (fun _ k => k.1)
         have hmm : updM m [(id, Blk.row e (.int .i64) [])] = m := same_row hm
         refine ⟨σ, ?_, ?_, ?_, trivial⟩ <;> simp only [hmm]
         · exact g1
         · exact g2
         · unfold repA; exact ⟨[], rfl, by unfold repAs; rfl⟩
       · have hcz : flat.length = xs.length * 1 := k1.1
         have hH : Holds (Value.int .i64) w g 0 xs.toArray := by
          intro j hj
          have hj' : j < xs.length := by simpa using hj
          rw [Nat.zero_add]
          refine ⟨?_, by simp [World.frozen?, hg]⟩
          refine rowR_cells k1 (g := g) (by rw [e1]; exact blkOf_slice hc) j _ ?_
          rw [hfl, List.getElem?_map, List.getElem?_eq_getElem hj', getElem!_pos xs.toArray j hj]
          rfl
         have hlt : g < w.heap.size := (Array.getElem?_eq_some_iff.1 hg).1
         rw [e1]
         refine (Go.Proofs.AnyM.slices_Sort_int L g 0 cap xs w hH hlt hsz).mono ?_
         rintro e' w' ⟨rfl, n, os, rfl⟩
         refine goal_eff _ ?_
         rw [putRow_map]
         have hl : (sortI xs).length = xs.length := List.length_mergeSort xs
         refine row_sorted h hn hm e1 hc hg hlc hcm hcs hl ?_ (sorted_world hg ?_ n os) fr _ trivial
         · have : ((sortI xs).toArray.map (Value.int .i64)).toList = (sortI xs).map (Value.int .i64) := by simp
           rw [show (List.mergeSort xs fun x y => decide (x ≤ y)) = sortI xs from rfl, this]
           exact ints_ro _ fun x hx => hin x ((List.mergeSort_perm xs _).mem_iff.1 hx)
         · have h9 : cap * 1 = cur.size := hcs.symm
           simp only [List.map_toArray, List.size_toArray, List.length_map, List.length_mergeSort]
           omega
     | [], hrd, _, _ => simp [sortCon, rds] at hrd
     | _ :: _ :: _, hrd, _, _ => 
       simp only [sortCon, rds] at hrd
       obtain ⟨_, h2⟩ := implP_some hrd
       cases h2
   · exact hp.elim

end
end Go.Ev

/- The contracts of the functions that the statements about the crane reach: orders. -/
set_option linter.unusedSimpArgs false
set_option linter.unusedVariables false
set_option maxRecDepth 100000
set_option maxHeartbeats 4000000
namespace Go.Proofs.Ytfhbjmoegceelaa
open Go.Ev Go.Cp


theorem has35 : FnHas Try.prog 35 := ⟨⟨_, Try.func35, by kernel_rfl, by kernel_rfl⟩⟩


def con34 : Con := { ps := [.d false (.sl (.int .i64))], rs := [.o 3 (.int .i64)], pre := fun x => x.1.length ≤ 1048576, out := fun x => (x.1, ()), nw := id }
theorem c34 : CtrOk Try.prog 34 con34.ctr :=
 con_sound (G := ⟨[], [], [], [], []⟩) tab_ok EnvOk.nil rfl Try.func34 rfl con34 21 (by kernel_rfl) (by decide) (by decide) rfl (by decide) rfl (by
  rintro ⟨(l : List Int), _⟩ hpre hwf X hT hG hk hK
  have hl : l.length ≤ 1048576 := hpre
  (simp -implicitDefEqProofs (maxSteps := 4000000) only [go_sem, con34, hT, hG, hk, hK, Try.results34] at hwf ⊢); (try simp (disch := decide +kernel) only [drawn, true_and, and_true])
  intro b hb
  exact ⟨fun h => (List.eq_nil_of_length_eq_zero (hb h)).symm, fun _ => by omega⟩)
def con35 : Con := { ps := [.o 3 (.int .i64)], rs := [], pre := fun x => x.1.length < 4611686018427387904, out := fun _ => (), nw := fun x => (sortI x.1, ()) }
theorem c35 : CtrOk Try.prog 35 con35.ctr := sort_int Try.sortA 3

theorem sortI_len (l : List Int) : (sortI l).length = l.length := List.length_mergeSort l
theorem sortI_perm (l : List Int) : (sortI l).Perm l := List.mergeSort_perm l _
theorem sortI_sorted (l : List Int) : (sortI l).Pairwise (· ≤ ·) := by
 have h := List.pairwise_mergeSort (le := fun x y : Int => decide (x ≤ y)) (fun a b c => by simp; omega) (fun a b => by simp; omega) l
 exact h.imp (fun h => by simpa using h)
/-- Two ascending lists of the same numbers are the same. -/
theorem sorted_eq {a b : List Int} (h : a.Perm b) (ha : a.Pairwise (· ≤ ·)) (hb : b.Pairwise (· ≤ ·)) : a = b :=
 List.Perm.eq_of_pairwise (le := (· ≤ ·)) (fun x y _ _ h1 h2 => by omega) ha hb h
theorem idxs_sorted (n : Nat) : (idxs n).Pairwise (· ≤ ·) := by
 unfold idxs
 rw [List.pairwise_map]
 exact List.pairwise_lt_range.imp (fun h => by simp only [Int.ofNat_eq_natCast]; omega)
theorem sortI_idxs {l : List Int} {n : Nat} (h : l.Perm (idxs n)) : sortI l = idxs n := sorted_eq ((sortI_perm l).trans h) (sortI_sorted l) (idxs_sorted n)

def orderedV (n : Int) (l : List Int) : Bool := decide (sortI l = idxs n.toNat)
def con26 : Con := { ps := [.d false (.int .i64), .d false (.sl (.int .i64))], rs := [.d false .bool], pre := fun (x : Int × List Int × Unit) => 0 ≤ x.1 ∧ x.2.1.length ≤ 1048576, out := fun x => (orderedV x.1 x.2.1, ()), nw := id }
theorem c26 : CtrOk Try.prog 26 con26.ctr :=
 con_sound (G := ⟨[(34, con34.ctr), (35, con35.ctr)], [], [], [], []⟩) tab_ok (EnvOk.cons c34 has34 (EnvOk.cons c35 has35 EnvOk.nil)) rfl Try.func26 rfl con26 2158835 (by kernel_rfl) (by decide) (by decide) rfl (by decide) rfl (by
  rintro ⟨(n : Int), (l : List Int), _⟩ hpre hwf X hT hG hk hK
  obtain ⟨hn, hl⟩ : 0 ≤ n ∧ l.length ≤ 1048576 := hpre
  (simp -implicitDefEqProofs (maxSteps := 4000000) only [go_sem, con26, con34, con35, hT, hG, hk, hK, Try.results26] at hwf ⊢); (try simp (disch := decide +kernel) only [drawn, true_and, and_true])
  have hs := sortI_len l
  refine ⟨hl, fun _ => ⟨by omega, fun _ => ?_⟩⟩
  generalize hq : sortI l = q at hs ⊢
  refine evk_loop ⟨{ i : Nat // i ≤ q.length ∧ q.take i = idxs i }, 1000, fun i => [(0, .one (.int .i64 n)), (5, .one (.row 64)), (12, .one (.row 64)), (13, .one (.int .i64 q.length)), (14, .one (.int .i64 i.1))], fun _ => [(64, .row 3 (.int .i64) q)], fun i => q.length - i.1⟩ ⟨0, by simp, by simp [idxs]⟩ ?_ ?_
  · simp only [go_sem]
    rfl
  · rintro ⟨i, hi, hx⟩
    (simp -implicitDefEqProofs (maxSteps := 4000000) only [go_sem, con26, con34, con35, hT, hG, hk, hK, Try.results26]); (try simp (disch := decide +kernel) only [drawn, true_and, and_true])
    have hi0 : i ≤ q.length := hi
    have hx0 : q.take i = idxs i := hx
    have ho : orderedV n l = decide (q = idxs n.toNat) := by unfold orderedV; rw [hq]
    refine ⟨fun hlt => ?_, fun hge => ?_⟩
    · have hi1 : i < q.length := by omega
      have eq : q.getD (i : Int).toNat 0 = q[i] := by simp [hi1]
      rw [eq]
      refine ⟨⟨by omega, hlt⟩, fun _ => ⟨⟨by omega, hlt⟩, fun _ => ⟨fun hne => ?_, fun he => ⟨by omega, fin_lp ⟨i + 1, by omega, ?_⟩ ?_ ?_⟩⟩⟩⟩
      · rw [ho]
        refine (decide_eq_false fun e => hne ?_).symm
        have : q[i] = (idxs n.toNat)[i]'(by rw [← e]; exact hi1) := by simp only [← e]
        rw [this]
        simp [idxs]
      · rw [List.take_succ_eq_append_getElem hi1, hx0, idxs_succ, ← Classical.not_not.1 he]
      · simp only [go_sem]
        rfl
      · show q.length - (i + 1) < q.length - i
        omega
    · rw [List.take_of_length_le (by omega)] at hx0
      intro _
      rw [ho]
      congr 1
      have hqi : i = q.length := by omega
      refine propext ⟨fun e => ?_, fun e => ?_⟩
      · rw [hx0, hqi, ← e]; rfl
      · rw [e, idxs_len]; omega)

/-- An order that numbers choose. -/
def permL : Nat → Nat → Src → List Int → List Int
 | 0, _, _, out => out
 | k + 1, i, s, out => permL k (i + 1) s.step (out.take (goMod s.raw (i + 1)).toNat ++ ((i : Int) :: out.drop (goMod s.raw (i + 1)).toNat))
def permV (m : List Int) (n : Int) : List Int := permL n.toNat 0 (m.take 2000, 0) []
theorem permL_perm : ∀ (k i : Nat) (s : Src) (out : List Int), out.Perm (idxs i) → (permL k i s out).Perm (idxs (i + k))
 | 0, i, _, out, h => h
 | k + 1, i, s, out, h => by
   rw [permL]
   have := permL_perm k (i + 1) s.step (out.take (goMod s.raw (i + 1)).toNat ++ ((i : Int) :: out.drop (goMod s.raw (i + 1)).toNat)) (by
    rw [idxs_succ]
    refine List.perm_middle.trans ?_
    rw [List.take_append_drop]
    exact (List.Perm.cons _ h).trans (List.perm_append_singleton _ _).symm)
   rwa [show i + 1 + k = i + (k + 1) by omega] at this
theorem permV_perm (m : List Int) (n : Nat) : (permV m n).Perm (idxs n) := by
 have := permL_perm n 0 (m.take 2000, 0) [] (by simp [idxs])
 rwa [Nat.zero_add] at this
def con6 : Con := { ps := [.d false (.sl (.int .i64)), .d false (.int .i64)], rs := [.d false (.sl (.int .i64))], pre := fun (x : List Int × Int × Unit) => 0 ≤ x.2.1 ∧ x.2.1 ≤ 1000, out := fun x => (permV x.1 x.2.1, ()), nw := id }
theorem c6 : CtrOk Try.prog 6 con6.ctr :=
 con_sound (G := ⟨[(18, con18.ctr), (19, con19.ctr)], [], [], [], []⟩) tab_ok (EnvOk.cons c18 has18 (EnvOk.cons c19 has19 EnvOk.nil)) rfl Try.func6 rfl con6 17395 (by kernel_rfl) (by decide) (by decide) rfl (by decide) rfl (by
  rintro ⟨(m : List Int), (n : Int), _⟩ hpre hwf X hT hG hk hK
  obtain ⟨hn1, hn2⟩ : 0 ≤ n ∧ n ≤ 1000 := hpre
  (simp -implicitDefEqProofs (maxSteps := 4000000) only [go_sem, con6, con18, con19, hT, hG, hk, hK, Try.results6] at hwf ⊢); (try simp (disch := decide +kernel) only [drawn, true_and, and_true])
  intro _
  refine evk_loop ⟨{ q : Nat × Src × List Int // (q.1 : Int) ≤ n ∧ 0 ≤ q.2.1.2 ∧ q.2.2.length = q.1 ∧ permV m n = permL (n.toNat - q.1) q.1 q.2.1 q.2.2 }, 1000,
   fun q => [(1, .one (.int .i64 n)), (5, .one (.loc 128 0)), (6, .one (.row 160)), (7, .one (.int .i64 q.1.1))],
   fun q => [(128, .cells 48 [.sl (.int .i64) q.1.2.1.1 false, .int .i64 q.1.2.1.2]), (160, .row 3 (.int .i64) q.1.2.2)], fun q => n.toNat - q.1.1⟩
   ⟨(0, (m.take 2000, 0), []), hn1, Int.le_refl 0, rfl, rfl⟩ ?_ ?_
  · simp only [go_sem]
    rfl
  · rintro ⟨⟨i, ⟨sl, sa⟩, out⟩, hi, hp, hl, he⟩
    (simp -implicitDefEqProofs (maxSteps := 4000000) only [go_sem, con6, con18, con19, hT, hG, hk, hK, Try.results6]); (try simp (disch := decide +kernel) only [drawn, true_and, and_true])
    have hi' : (i : Int) ≤ n := hi
    have hp' : 0 ≤ sa := hp
    have hl' : out.length = i := hl
    have he' : permV m n = permL (n.toNat - i) i (sl, sa) out := he
    refine ⟨fun hlt => ?_, fun hge => ?_⟩
    · obtain ⟨k, hk'⟩ : ∃ k, n.toNat - i = k + 1 := ⟨n.toNat - i - 1, by omega⟩
      rw [hk', permL] at he'
      have hq := goMod_bd (Src.raw (sl, sa)) (i + 1) (by omega)
      have es : ((Src.step (sl, sa)).1, (Src.step (sl, sa)).2) = Src.step (sl, sa) := rfl
      have hst := Src.step_pos (sl, sa) hp'
      generalize hg : goMod (Src.raw (sl, sa)) (i + 1) = g at hq he' ⊢
      have ed : ((out.take out.length).drop g.toNat) = out.drop g.toNat := by rw [List.take_length]
      refine ⟨by omega, hp', fun _ => ⟨⟨hq.1, by omega⟩, by rw [List.length_drop, List.length_take]; omega, ⟨Int.le_refl 0, hq.1, by omega⟩, by rw [List.length_take]; omega, by simp only [List.length_append, List.length_take, List.length_drop, List.length_cons, List.length_nil]; omega, by omega, fin_lp ⟨(i + 1, Src.step (sl, sa), out.take g.toNat ++ ((i : Int) :: out.drop g.toNat)), by simp only; omega, hst, ?_, ?_⟩ ?_ ?_⟩⟩
      · simp only [List.length_append, List.length_take, List.length_drop, List.length_cons]; omega
      · show permV m n = permL (n.toNat - (i + 1)) (i + 1) (Src.step (sl, sa)) _
        rw [he', show n.toNat - (i + 1) = k by omega]
      · simp only [go_sem]
        simp
      · show n.toNat - (i + 1) < n.toNat - i
        omega
    · rw [show n.toNat - i = 0 by omega, permL] at he'
      rw [he'])
end Go.Proofs.Ytfhbjmoegceelaa

/- The contracts of the functions that the statements about the crane reach: finish times and checks of an order; two of the statements. -/
set_option linter.unusedSimpArgs false
set_option linter.unusedVariables false
set_option maxRecDepth 100000
set_option maxHeartbeats 4000000
namespace Go.Proofs.Ytfhbjmoegceelaa
open Go.Ev Go.Cp

theorem ordered_true {n : Nat} {l : List Int} (h : orderedV n l = true) : l.Perm (idxs n) := by
 have := of_decide_eq_true h
 exact (sortI_perm l).symm.trans (by rw [this]; simp)
theorem ordered_perm {n : Nat} {l : List Int} (h : l.Perm (idxs n)) : orderedV n l = true := by
 refine decide_eq_true ?_
 rw [sortI_idxs h]; simp

def finXV (now : Int) (js : Jobs) (o : List Int) : List Int := if checkedV now js ≠ 0 ∨ orderedV js.length o = false then [] else finV js now o
def con10 : Con := { ps := [.d false (.int .i64), .d false (.sl (.pair (.int .i64) (.int .i64))), .d false (.sl (.int .i64))], rs := [.d false (.sl (.int .i64))], pre := fun x => x.2.2.1.length ≤ 1048576, out := fun x => (finXV x.1 x.2.1 x.2.2.1, ()), nw := id }
theorem c10 : CtrOk Try.prog 10 con10.ctr :=
 con_sound (G := ⟨[(21, con21.ctr), (26, con26.ctr), (27, con27.ctr)], [], [], [], []⟩) tab_ok (EnvOk.cons c21 has21 (EnvOk.cons c26 has26 (EnvOk.cons c27 has27 EnvOk.nil))) rfl Try.func10 rfl con10 131143 (by kernel_rfl) (by decide) (by decide) rfl (by decide) rfl (by
  rintro ⟨(now : Int), (js : Jobs), (o : List Int), _⟩ hpre hwf X hT hG hk hK
  have ho : o.length ≤ 1048576 := hpre
  (simp -implicitDefEqProofs (maxSteps := 4000000) only [go_sem, con10, con21, con26, con27, hT, hG, hk, hK, Try.results10] at hwf ⊢); (try simp (disch := decide +kernel) only [drawn, true_and, and_true])
  intro _ _
  refine ⟨fun _ => ⟨by omega, ho⟩, fun h => by simpa using h, fun h => ?_, fun h => ?_⟩
  · unfold finXV
    simp only [Bool.or_eq_true, decide_eq_true_eq, Bool.not_eq_true'] at h
    rw [if_pos h]
  · simp only [Bool.or_eq_false_iff, decide_eq_false_iff_not, Classical.not_not, Bool.not_eq_false'] at h
    have hz := checked_zero h.1
    have hp := ordered_true h.2
    refine ⟨⟨hz.2.1, hz.2.2.1, ho, fun k hk => idxs_mem (hp.mem_iff.1 hk)⟩, fun _ => ?_⟩
    unfold finXV
    rw [if_neg]
    rintro (h3 | h3)
    · exact h3 h.1
    · rw [h.2] at h3; cases h3)
def checkXV (now : Int) (js : Jobs) (o : List Int) : Int := if checkedV now js ≠ 0 then checkedV now js else if orderedV js.length o = false then 9 else if lateV now js o ≥ 0 then 12 else 0
def con14 : Con := { ps := [.d false (.int .i64), .d false (.sl (.pair (.int .i64) (.int .i64))), .d false (.sl (.int .i64))], rs := [.d false (.int .i64)], pre := fun x => x.2.2.1.length ≤ 1048576, out := fun x => (checkXV x.1 x.2.1 x.2.2.1, ()), nw := id }
theorem c14 : CtrOk Try.prog 14 con14.ctr :=
 con_sound (G := ⟨[(21, con21.ctr), (26, con26.ctr), (23, con23.ctr)], [], [], [], []⟩) tab_ok (EnvOk.cons c21 has21 (EnvOk.cons c26 has26 (EnvOk.cons c23 has23 EnvOk.nil))) rfl Try.func14 rfl con14 1069255 (by kernel_rfl) (by decide) (by decide) rfl (by decide) rfl (by
  rintro ⟨(now : Int), (js : Jobs), (o : List Int), _⟩ hpre hwf X hT hG hk hK
  have ho : o.length ≤ 1048576 := hpre
  (simp -implicitDefEqProofs (maxSteps := 4000000) only [go_sem, con14, con21, con26, con23, hT, hG, hk, hK, Try.results14] at hwf ⊢); (try simp (disch := decide +kernel) only [drawn, true_and, and_true])
  intro _
  refine ⟨fun h => by unfold checkXV; rw [if_pos h], fun h hl => ⟨⟨by omega, ho⟩, fun h2 => ?_, fun h2 => ?_⟩⟩
  · simp only [Bool.not_eq_true'] at h2
    unfold checkXV; rw [if_neg h, if_pos h2]
  · simp only [Bool.not_eq_false'] at h2
    have h0 : checkedV now js = 0 := Classical.not_not.1 h
    have hz := checked_zero h0
    have hp := ordered_true h2
    refine ⟨⟨hz.2.1, hz.2.2.1, ho, fun k hk => idxs_mem (hp.mem_iff.1 hk)⟩, fun _ => ⟨fun h3 => ?_, fun h3 => ?_⟩⟩
    · unfold checkXV lateV; rw [if_neg h, if_neg (by rw [h2]; simp), if_pos h3]
    · unfold checkXV lateV; rw [if_neg h, if_neg (by rw [h2]; simp), if_neg h3])

theorem someL_len : ∀ (n : Nat) (s : Src) (t : Int), (someL n s t).length = n
 | 0, _, _ => rfl
 | n + 1, s, t => by rw [someL, List.length_cons, someL_len n]
theorem someV_len (l : List Int) (n : Int) (h0 : 0 ≤ n) : ((someV l n).2.length : Int) ≤ n := by
 have g2 := goMod_bd (Src.raw (Src.step (l.take 2000, 0))) (n + 1) (by omega)
 have e : (someV l n).2.length = (goMod (Src.raw (Src.step (l.take 2000, 0))) (n + 1)).toNat := someL_len _ _ _
 omega
end Go.Proofs.Ytfhbjmoegceelaa

/- The contracts of the functions that the statements about the crane reach: the reference's checks; the certificate. -/
set_option linter.unusedSimpArgs false
set_option linter.unusedVariables false
set_option maxRecDepth 100000
set_option maxHeartbeats 4000000
namespace Go.Proofs.Ytfhbjmoegceelaa
open Go.Ev Go.Cp


def con36 : Con := { ps := [.d false (.sl (.int .i64)), .d false (.int .i64)], rs := [.d false .bool], pre := fun _ => True, out := fun x => (decide (x.2.1 ∈ x.1), ()), nw := id }
theorem c36 : CtrOk Try.prog 36 con36.ctr :=
 con_sound (G := ⟨[], [], [], [], []⟩) tab_ok EnvOk.nil rfl Try.func36 rfl con36 131635 (by kernel_rfl) (by decide) (by decide) rfl (by decide) rfl (by
  rintro ⟨(l : List Int), (x : Int), _⟩ hpre hwf X hT hG hk hK
  (simp -implicitDefEqProofs (maxSteps := 4000000) only [go_sem, con36, hT, hG, hk, hK, Try.results36] at hwf ⊢); (try simp (disch := decide +kernel) only [drawn, true_and, and_true])
  refine evk_loop ⟨{ i : Nat // i ≤ l.length ∧ x ∉ l.take i }, 1000, fun i => [(0, .one (.sl (.int .i64) l false)), (1, .one (.int .i64 x)), (5, .one (.int .i64 i.1))], fun _ => [], fun i => l.length - i.1⟩ ⟨0, by simp⟩ ?_ ?_
  · simp only [go_sem]
    rfl
  · rintro ⟨i, hi, hx⟩
    (simp -implicitDefEqProofs (maxSteps := 4000000) only [go_sem, con36, hT, hG, hk, hK, Try.results36]); (try simp (disch := decide +kernel) only [drawn, true_and, and_true])
    intro hl
    refine ⟨fun hlt => ⟨⟨by omega, hlt⟩, fun _ _ => ⟨fun he => ?_, fun he => ⟨by have := hwf.1.1; simp only [maxLen] at this; omega, ?_⟩⟩⟩, fun hge => ?_⟩
    · have : x ∈ l := by
       have hi' : i < l.length := by omega
       rw [← he]; simp [hi']
      simp [this]
    · refine fin_lp ⟨i + 1, by omega, ?_⟩ ?_ ?_
      · have hi' : i < l.length := by omega
        rw [List.take_succ_eq_append_getElem hi']
        simp [hi'] at he
        simp only [List.mem_append, List.mem_singleton, not_or]
        exact ⟨hx, fun h => he h.symm⟩
      · simp only [go_sem]
        rfl
      · show l.length - (i + 1) < l.length - i
        omega
    · rw [List.take_of_length_le (by omega)] at hx
      simp [hx])

def con17 : Con := { ps := [.d false (.int .i64)], rs := [.d false (.int .i64)], pre := fun _ => True, out := fun x => (costV x.1, ()), nw := id }
theorem c17 : CtrOk Try.prog 17 con17.ctr :=
 con_sound (G := ⟨[], [], [], [], []⟩) tab_ok EnvOk.nil rfl Try.func17 rfl con17 261 (by kernel_rfl) (by decide) (by decide) rfl (by decide) rfl (by
  rintro ⟨(p : Int), _⟩ hpre hwf X hT hG hk hK
  (simp -implicitDefEqProofs (maxSteps := 4000000) only [go_sem, con17, hT, hG, hk, hK, Try.results17] at hwf ⊢); (try simp (disch := decide +kernel) only [drawn, true_and, and_true])
  unfold costV
  refine ⟨fun h => by simpa using h, fun h => ?_, fun h => ?_⟩
  · rw [if_pos (by simpa using h)]
  · simp only [Bool.or_eq_false_iff, decide_eq_false_iff_not] at h
    refine ⟨by omega, by omega, ?_⟩
    rw [if_neg (by omega)])

def con24 : Con := { ps := [.d false (.int .i64), .d false (.sl (.pair (.int .i64) (.int .i64)))], rs := [.d false (.int .i64)], pre := fun _ => True, out := fun x => (checkedV x.1 x.2.1, ()), nw := id }
theorem c24 : CtrOk Try.prog 24 con24.ctr :=
 con_sound (G := ⟨[(17, con17.ctr)], [], [], [], []⟩) tab_ok (EnvOk.cons c17 has17 EnvOk.nil) rfl Try.func24 rfl con24 8796093301043 (by kernel_rfl) (by decide) (by decide) rfl (by decide) rfl (by
  rintro ⟨(now : Int), (js : Jobs), _⟩ hpre hwf X hT hG hk hK
  (simp -implicitDefEqProofs (maxSteps := 4000000) only [go_sem, con24, con17, hT, hG, hk, hK, Try.results24] at hwf ⊢); (try simp (disch := decide +kernel) only [drawn, true_and, and_true])
  intro hl
  refine ⟨fun h => by unfold checkedV; rw [if_pos (by omega)], fun h => ⟨fun k => by simpa using k, fun k => ?_, fun k => ?_⟩⟩
  · unfold checkedV; rw [if_neg (by omega), if_pos (by simpa using k)]
  · have e : checkedV now js = if js.all okJob then 0 else 1 := by
     simp only [Bool.or_eq_false_iff, decide_eq_false_iff_not] at k
     unfold checkedV; rw [if_neg (by omega), if_neg (by omega)]
    refine evk_loop ⟨{ i : Nat // i ≤ js.length ∧ (js.take i).all okJob = true }, 1000, fun i => [(1, .one (.sl (.pair (.int .i64) (.int .i64)) js false)), (5, .one (.int .i64 i.1))], fun _ => [], fun i => js.length - i.1⟩ ⟨0, by simp⟩ ?_ ?_
    · simp only [go_sem]
      rfl
    · rintro ⟨i, hi, hx⟩
      (simp -implicitDefEqProofs (maxSteps := 4000000) only [go_sem, con24, con17, hT, hG, hk, hK, Try.results24]); (try simp (disch := decide +kernel) only [drawn, true_and, and_true])
      rw [e]
      intro _
      refine ⟨fun hlt => ⟨⟨by omega, hlt⟩, fun _ _ _ => ?_⟩, fun hge => ?_⟩
      · have hi' : i < js.length := by omega
        have ej : js.getD (i : Int).toNat (0, 0) = js[i] := by simp [hi']
        rw [ej]
        have hm : js[i] ∈ js := List.getElem_mem hi'
        have ha : (decide (costV js[i].1 < 0) || decide (js[i].2 < 0) || decide (js[i].2 > 1048576)) = !okJob js[i] := by
         have q : ∀ (a b c : Prop) [Decidable a] [Decidable b] [Decidable c] (a' b' c' : Prop) [Decidable a'] [Decidable b'] [Decidable c'], (a' ↔ ¬a) → (b' ↔ ¬b) → (c' ↔ ¬c) → (decide a || decide b || decide c) = !(decide a' && decide b' && decide c') := by
          intro a b c _ _ _ a' b' c' _ _ _ h1 h2 h3
          simp only [h1, h2, h3, decide_not]
          cases decide a <;> cases decide b <;> cases decide c <;> rfl
         exact q _ _ _ _ _ _ (by omega) (by omega) (by omega)
        rw [ha]
        refine ⟨fun h => ⟨by omega, by omega⟩, fun _ _ => ⟨fun h => by simpa using h, fun h => ⟨by omega, by omega⟩, fun _ _ => ⟨fun h => by rw [h]; rfl, fun h => ?_, fun h => ⟨by omega, fin_lp ⟨i + 1, by omega, ?_⟩ ?_ ?_⟩⟩⟩⟩
        · rw [if_neg]
          intro hall
          rw [List.all_eq_true.1 hall _ hm] at h
          cases h
        · rw [List.take_succ_eq_append_getElem hi', List.all_append, hx]
          simpa using h
        · simp only [go_sem]
          rfl
        · show js.length - (i + 1) < js.length - i
          omega
      · rw [List.take_of_length_le (by omega)] at hx
        rw [if_pos hx])

/-- Numbers that rise from at least 0 are no less than their places. -/
theorem rise_ge : ∀ (l : List Int) (b : Int), l.Pairwise (· < ·) → (∀ x ∈ l, b ≤ x) → ∀ i (h : i < l.length), b + i ≤ l[i]
 | x :: l, b, hp, hb, 0, _ => by simpa using hb x (by simp)
 | x :: l, b, hp, hb, i + 1, h => by
   rw [List.pairwise_cons] at hp
   have := rise_ge l (b + 1) hp.2 (fun y hy => by have := hp.1 y hy; have := hb x (by simp); omega) i (by simpa using h)
   simp only [List.getElem_cons_succ]
   omega
theorem rise_le (l : List Int) (n : Int) (hp : l.Pairwise (· < ·)) (hb : ∀ x ∈ l, x < n) (i : Nat) (h : i < l.length) : l[i] + (l.length - i) ≤ n := by
 induction l generalizing i with
 | nil => simp at h
 | cons x l ih =>
   rw [List.pairwise_cons] at hp
   cases i with
   | succ i =>
     have := ih hp.2 (fun y hy => hb y (by simp [hy])) i (by simpa using h)
     simp only [List.getElem_cons_succ, List.length_cons]
     omega
   | zero =>
     cases l with
     | nil => have := hb x (by simp); simp; omega
     | cons y l =>
       have h1 := ih hp.2 (fun y hy => hb y (by simp [hy])) 0 (by simp)
       have h2 := hp.1 y (by simp)
       simp only [List.getElem_cons_zero, List.length_cons] at h1 ⊢
       omega
theorem order_of {l : List Int} {n : Nat} (hd : l.Nodup) (hb : ∀ x ∈ l, 0 ≤ x ∧ x < n) (hl : l.length = n) : l.Perm (idxs n) := by
 have hs := sortI_sorted l
 have hn : (sortI l).Nodup := (sortI_perm l).nodup_iff.2 hd
 have hr : (sortI l).Pairwise (· < ·) := by
  have := hs.and hn
  exact this.imp (fun h => by have := h.1; have := h.2; omega)
 have hm : ∀ x ∈ sortI l, 0 ≤ x ∧ x < n := fun x hx => hb x ((sortI_perm l).mem_iff.1 hx)
 have e : sortI l = idxs n := by
  apply List.ext_getElem
  · rw [sortI_len, hl, idxs_len]
  · intro i h1 h2
    have g1 := rise_ge (sortI l) 0 hr (fun x hx => (hm x hx).1) i h1
    have g2 := rise_le (sortI l) n hr (fun x hx => (hm x hx).2) i h1
    rw [sortI_len, hl] at g2
    simp only [idxs, List.getElem_map, List.getElem_range, Int.ofNat_eq_natCast]
    omega
 rw [← e]
 exact (sortI_perm l).symm
theorem idxs_nodup (n : Nat) : (idxs n).Nodup := by
 unfold idxs List.Nodup
 rw [List.pairwise_map]
 exact List.pairwise_lt_range.imp (fun h => by simp only [Int.ofNat_eq_natCast]; omega)

def con28 : Con := { ps := [.d false (.sl (.pair (.int .i64) (.int .i64))), .d false (.sl (.int .i64))], rs := [.d false .bool], pre := fun _ => True, out := fun x => (orderedV (List.length x.1) x.2.1, ()), nw := id }
theorem c28 : CtrOk Try.prog 28 con28.ctr :=
 con_sound (G := ⟨[(36, con36.ctr)], [], [], [], []⟩) tab_ok (EnvOk.cons c36 has36 EnvOk.nil) rfl Try.func28 rfl con28 34359738931 (by kernel_rfl) (by decide) (by decide) rfl (by decide) rfl (by
  rintro ⟨(js : Jobs), (o : List Int), _⟩ hpre hwf X hT hG hk hK
  (simp -implicitDefEqProofs (maxSteps := 4000000) only [go_sem, con28, con36, hT, hG, hk, hK, Try.results28] at hwf ⊢); (try simp (disch := decide +kernel) only [drawn, true_and, and_true])
  refine evk_loop ⟨{ i : Nat // i ≤ o.length ∧ (o.take i).Nodup ∧ ∀ x ∈ o.take i, 0 ≤ x ∧ x < js.length }, 1000, fun i => [(0, .one (.sl (.pair (.int .i64) (.int .i64)) js false)), (1, .one (.sl (.int .i64) o false)), (5, .one (.int .i64 i.1))], fun _ => [], fun i => o.length - i.1⟩ ⟨0, by simp⟩ ?_ ?_
  · simp only [go_sem]
    rfl
  · rintro ⟨i, hi, hd, hb⟩
    (simp -implicitDefEqProofs (maxSteps := 4000000) only [go_sem, Bool.not_eq_true', Bool.not_eq_false', Bool.or_eq_true, Bool.or_eq_false_iff, Bool.and_eq_true, Bool.and_eq_false_iff, decide_eq_true_eq, decide_eq_false_iff_not, Classical.not_not, not_or, maxLen, con28, con36, hT, hG, hk, hK, Try.results28]); (try simp (disch := decide +kernel) only [drawn, true_and, and_true])
    intro hl
    refine ⟨fun hlt => ?_, fun hge => ?_⟩
    · have hi' : i < o.length := by omega
      have eo : o.getD (i : Int).toNat 0 = o[i] := by simp [hi']
      rw [eo]
      have hm := List.getElem_mem hi'
      (repeat' (with_reducible (first | refine And.intro ?_ ?_ | intro _))) <;> (try (first | with_reducible (first | done | assumption | omega | contradiction) | decide))
      · rename_i h
        cases hov : orderedV (js.length : Int) o with
        | false => rfl
        | true =>
          exfalso
          have hp := ordered_true hov
          have hx := idxs_mem (hp.mem_iff.1 hm)
          have hnd := hp.nodup_iff.2 (idxs_nodup _)
          rcases h with h | h
          · omega
          · rw [Int.toNat_natCast] at h
            rw [← List.take_append_drop i o, List.drop_eq_getElem_cons hi'] at hnd
            exact (List.nodup_append.1 hnd).2.2 _ h _ List.mem_cons_self rfl
      · rename_i h
        refine fin_lp ⟨i + 1, by omega, ?_, ?_⟩ ?_ ?_
        · rw [List.take_succ_eq_append_getElem hi', List.nodup_append]
          rw [Int.toNat_natCast] at h
          refine ⟨hd, by simp, fun a ha b hb' => ?_⟩
          rw [List.mem_singleton.1 hb']
          exact fun e => h.2 (e ▸ ha)
        · intro x hx
          rw [List.take_succ_eq_append_getElem hi', List.mem_append] at hx
          rcases hx with hx | hx
          · exact hb x hx
          · rw [List.mem_singleton.1 hx]; omega
        · simp only [go_sem]
          rfl
        · show o.length - (i + 1) < o.length - i
          omega
    · rw [List.take_of_length_le (by omega)] at hd hb
      intro _ _
      cases hov : orderedV (js.length : Int) o with
      | true =>
        have := (ordered_true hov).length_eq
        rw [idxs_len] at this
        exact decide_eq_true (by omega)
      | false =>
        refine decide_eq_false fun e => ?_
        rw [ordered_perm (order_of hd hb (by omega))] at hov
        cases hov)

def con11 : Con := { ps := [.d false (.int .i64), .d false (.sl (.pair (.int .i64) (.int .i64))), .d false (.sl (.int .i64))], rs := [.d false (.sl (.int .i64))], pre := fun (x : Int × Jobs × List Int × Unit) => x.2.2.1.length ≤ 1048576, out := fun x => (finXV x.1 x.2.1 x.2.2.1, ()), nw := id }
theorem c11 : CtrOk Try.prog 11 con11.ctr :=
 con_sound (G := ⟨[(17, con17.ctr), (24, con24.ctr), (28, con28.ctr)], [], [], [], []⟩) tab_ok (EnvOk.cons c17 has17 (EnvOk.cons c24 has24 (EnvOk.cons c28 has28 EnvOk.nil))) rfl Try.func11 rfl con11 570425799 (by kernel_rfl) (by decide) (by decide) rfl (by decide) rfl (by
  rintro ⟨(now : Int), (js : Jobs), (ks : List Int), _⟩ hpre hwf X hT hG hk hK
  have ho : ks.length ≤ 1048576 := hpre
  (simp -implicitDefEqProofs (maxSteps := 4000000) only [go_sem, Bool.not_eq_true', Bool.not_eq_false', Bool.or_eq_true, Bool.or_eq_false_iff, Bool.and_eq_true, Bool.and_eq_false_iff, decide_eq_true_eq, decide_eq_false_iff_not, Classical.not_not, not_or, maxLen, con11, con17, con24, con28, hT, hG, hk, hK, Try.results11] at hwf ⊢); (try simp (disch := decide +kernel) only [drawn, true_and, and_true])
  (repeat' (with_reducible (first | refine And.intro ?_ ?_ | intro _))) <;> (try (first | with_reducible (first | done | assumption | omega | contradiction) | decide))
  · rename_i h
    unfold finXV
    rw [if_pos]
    rcases h with (h | h) | h
    · exact .inl h
    · right
      cases hov : orderedV (js.length : Int) ks with
      | false => rfl
      | true =>
        have := (ordered_true hov).length_eq
        rw [idxs_len] at this
        omega
    · exact .inr h
  · rename_i h
    have hz := checked_zero h.1.1
    have hp := ordered_true h.2
    have h4 : ∀ k ∈ ks, 0 ≤ k ∧ k < js.length := fun k hk => idxs_mem (hp.mem_iff.1 hk)
    have hfx : finXV now js ks = finV js now ks := by
     unfold finXV
     rw [if_neg]
     rintro (h3 | h3)
     · exact h3 h.1.1
     · rw [h.2] at h3; cases h3
    refine evk_loop ⟨{ q : Nat × List Int × Int // q.1 ≤ ks.length ∧ finV js now ks = q.2.1 ++ finV js q.2.2 (ks.drop q.1) ∧ q.2.1.length = q.1 ∧ -(q.1 : Int) ≤ q.2.2 ∧ q.2.2 ≤ 1048576 + 200 * q.1 }, 1000,
     fun q => [(0, .one (.int .i64 q.1.2.2)), (1, .one (.sl (.pair (.int .i64) (.int .i64)) js false)), (2, .one (.sl (.int .i64) ks false)), (7, .one (.row 64)), (8, .one (.int .i64 q.1.1))],
     fun q => [(64, .row 3 (.int .i64) q.1.2.1)], fun q => ks.length - q.1.1⟩ ⟨(0, [], now), by simp, by simp, rfl, by simp; omega, by simp; omega⟩ ?_ ?_
    · simp only [go_sem]
      rfl
    · rintro ⟨⟨i, out, t⟩, (hi : i ≤ ks.length), (he : finV js now ks = out ++ finV js t (ks.drop i)), (hl : out.length = i), (hb1 : -(i : Int) ≤ t), (hb2 : t ≤ 1048576 + 200 * (i : Int))⟩
      (simp -implicitDefEqProofs (maxSteps := 4000000) only [go_sem, Bool.not_eq_true', Bool.not_eq_false', Bool.or_eq_true, Bool.or_eq_false_iff, Bool.and_eq_true, Bool.and_eq_false_iff, decide_eq_true_eq, decide_eq_false_iff_not, Classical.not_not, not_or, maxLen, con11, con17, con24, con28, hT, hG, hk, hK, Try.results11]); (try simp (disch := decide +kernel) only [drawn, true_and, and_true])
      intro _
      refine ⟨fun hlt => ?_, fun hge => ?_⟩
      · have hi' : i < ks.length := by omega
        have ek : ks.getD (i : Int).toNat 0 = ks[i] := by simp [hi']
        rw [ek]
        have hk4 := h4 _ (List.getElem_mem hi')
        generalize hc : costV (List.getD js (Int.toNat ks[i]) (0, 0)).1 = c
        have hcb : -1 ≤ c ∧ c ≤ 200 := by rw [← hc]; exact costV_bd _
        (repeat' (with_reducible (first | refine And.intro ?_ ?_ | intro _))) <;> (try (first | with_reducible (first | done | assumption | omega | contradiction) | decide))
        refine fin_lp ⟨(i + 1, out ++ [t + c], t + c), by omega, ?_, ?_, ?_, ?_⟩ ?_ ?_
        · show finV js now ks = (out ++ [t + c]) ++ finV js (t + c) (ks.drop (i + 1))
          rw [he, List.drop_eq_getElem_cons hi', finV, hc]
          simp
        · show (out ++ [t + c]).length = i + 1
          rw [List.length_append, hl]; rfl
        · show -((i + 1 : Nat) : Int) ≤ t + c
          omega
        · show t + c ≤ 1048576 + 200 * ((i + 1 : Nat) : Int)
          omega
        · simp only [go_sem]
          rfl
        · show ks.length - (i + 1) < ks.length - i
          omega
      · rw [hfx, he, List.drop_of_length_le (by omega), finV, List.append_nil])

theorem lateV_at {now : Int} {js : Jobs} {o : List Int} (i : Nat) (h : firstLate js 0 (finV js now o) o = firstLate js i ((finV js now o).drop i) (o.drop i)) (hi : i < o.length) :
 lateV now js o = if (finV js now o).getD i 0 > dueOf js o[i] then (i : Int) else firstLate js ((i + 1 : Nat) : Int) ((finV js now o).drop (i + 1)) (o.drop (i + 1)) := by
 have hf : i < (finV js now o).length := by rw [finV_len]; exact hi
 unfold lateV
 rw [h, List.drop_eq_getElem_cons hf, List.drop_eq_getElem_cons hi, firstLate]
 simp [hf]

def con15 : Con := { ps := [.d false (.int .i64), .d false (.sl (.pair (.int .i64) (.int .i64))), .d false (.sl (.int .i64))], rs := [.d false (.int .i64)], pre := fun (x : Int × Jobs × List Int × Unit) => x.2.2.1.length ≤ 1048576, out := fun x => (checkXV x.1 x.2.1 x.2.2.1, ()), nw := id }
theorem c15 : CtrOk Try.prog 15 con15.ctr :=
 con_sound (G := ⟨[(11, con11.ctr), (24, con24.ctr), (28, con28.ctr)], [], [], [], []⟩) tab_ok (EnvOk.cons c11 has11 (EnvOk.cons c24 has24 (EnvOk.cons c28 has28 EnvOk.nil))) rfl Try.func15 rfl con15 562967200416711 (by kernel_rfl) (by decide) (by decide) rfl (by decide) rfl (by
  rintro ⟨(now : Int), (js : Jobs), (ks : List Int), _⟩ hpre hwf X hT hG hk hK
  have ho : ks.length ≤ 1048576 := hpre
  (simp -implicitDefEqProofs (maxSteps := 4000000) only [go_sem, Bool.not_eq_true', Bool.not_eq_false', Bool.or_eq_true, Bool.or_eq_false_iff, Bool.and_eq_true, Bool.and_eq_false_iff, decide_eq_true_eq, decide_eq_false_iff_not, Classical.not_not, not_or, maxLen, con15, con11, con24, con28, hT, hG, hk, hK, Try.results15] at hwf ⊢); (try simp (disch := decide +kernel) only [drawn, true_and, and_true])
  (repeat' (with_reducible (first | refine And.intro ?_ ?_ | intro _))) <;> (try (first | with_reducible (first | done | assumption | omega | contradiction) | decide))
  · rename_i h
    unfold checkXV; rw [if_pos h]
  · rename_i h0 _ _ h
    have hov : orderedV (js.length : Int) ks = false := by
     rcases h with h | h
     · cases hov : orderedV (js.length : Int) ks with
       | false => rfl
       | true =>
         have := (ordered_true hov).length_eq
         rw [idxs_len] at this
         omega
     · exact h
    unfold checkXV; rw [if_neg (by rw [h0]; simp), if_pos hov]
  · rename_i h0 _ _ h2 _
    have hfx : finXV now js ks = finV js now ks := by
     unfold finXV
     rw [if_neg]
     rintro (h3 | h3)
     · exact h3 h0
     · rw [h2.2] at h3; cases h3
    have h4 : ∀ k ∈ ks, 0 ≤ k ∧ k < js.length := fun k hk => idxs_mem ((ordered_true h2.2).mem_iff.1 hk)
    have hv : checkXV now js ks = if lateV now js ks ≥ 0 then 12 else 0 := by
     unfold checkXV; rw [if_neg (by rw [h0]; simp), if_neg (by rw [h2.2]; simp)]
    rw [hfx]
    have hfl := finV_len js ks now
    refine evk_loop ⟨{ i : Nat // i ≤ ks.length ∧ firstLate js 0 (finV js now ks) ks = firstLate js i ((finV js now ks).drop i) (ks.drop i) }, 1000,
     fun q => [(1, .one (.sl (.pair (.int .i64) (.int .i64)) js false)), (2, .one (.sl (.int .i64) ks false)), (8, .one (.sl (.int .i64) (finV js now ks) false)), (9, .one (.int .i64 q.1))],
     fun q => [], fun q => ks.length - q.1⟩ ⟨0, by simp, by simp⟩ ?_ ?_
    · simp only [go_sem]
      rfl
    · rintro ⟨i, (hi : i ≤ ks.length), he⟩
      (simp -implicitDefEqProofs (maxSteps := 4000000) only [go_sem, Bool.not_eq_true', Bool.not_eq_false', Bool.or_eq_true, Bool.or_eq_false_iff, Bool.and_eq_true, Bool.and_eq_false_iff, decide_eq_true_eq, decide_eq_false_iff_not, Classical.not_not, not_or, maxLen, con15, con11, con24, con28, hT, hG, hk, hK, Try.results15]); (try simp (disch := decide +kernel) only [drawn, true_and, and_true])
      intro _
      refine ⟨fun hlt => ?_, fun hge => ?_⟩
      · have hi' : i < ks.length := by omega
        have ek : ks.getD (i : Int).toNat 0 = ks[i] := by simp [hi']
        have hk4 := h4 _ (List.getElem_mem hi')
        have hst := lateV_at i he hi'
        rw [ek, Int.toNat_natCast]
        unfold dueOf at hst
        (repeat' (with_reducible (first | refine And.intro ?_ ?_ | intro _))) <;> (try (first | with_reducible (first | done | assumption | omega | contradiction) | decide))
        rename_i h
        rw [if_neg h] at hst
        refine fin_lp ⟨i + 1, by omega, ?_⟩ ?_ ?_
        · rw [← hst]; rfl
        · simp only [go_sem]
          rfl
        · show ks.length - (i + 1) < ks.length - i
          omega
      · have : firstLate js 0 (finV js now ks) ks = -1 := by
         rw [he, List.drop_of_length_le (show ks.length ≤ i by omega)]
         cases (finV js now ks).drop i <;> rfl
        rw [hv]; unfold lateV; rw [this]; rfl)

end Go.Proofs.Ytfhbjmoegceelaa
