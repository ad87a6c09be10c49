/- Part. -/
import Derived.Test.YtabadacjbkhmkaaGreatDoorEvFun4ToBox
import Derived.Test.YtabadacjbkhmkaaGreatDoorEvSimp
import Derived.Shelf.SortM.Plain
import Derived.Shelf.SortM.SortNone
import Derived.Test.YtabadacjbkhmkaaGreatDoorCnTToRb
import Derived.Test.YtabadacjbkhmkaaGreatDoorCnLay
import Derived.Test.YtabadacjbkhmkaaGreatDoorCnRc
set_option linter.all false
namespace Go.Ev
open Go.Sort (putCells putRow mapBlock onCells grow Holds)
section
variable {cx : Cx} {σ : Nat → Value} {N : Nat → Prop} {m : Mem} {w : World} {P : Program}
theorem kB1 (F cur : Array Value) (h : F.size ≤ cur.size) : (putCells id 0 F cur).toList = F.toList ++ cur.toList.drop F.size := by
 apply List.ext_getElem
 · simp [putCells]; omega
 · intro k h1 h2; have hk : k < cur.size := by simpa [putCells] using h1
   simp only [putCells, Array.getElem_toList, Array.getElem_mapIdx, List.getElem_append, Array.length_toList, List.getElem_drop, Nat.zero_le, true_and, Nat.zero_add, Nat.sub_zero, id]; split
   · rename_i hlt; exact getElem!_pos F k hlt
   · rename_i hlt; congr 1; omega
theorem zB9 {α : Type} [Inhabited α] (enc : α → Value) (w : World) (g : Nat) (d : Array α) : putRow enc w g 0 d = putRow id w g 0 (d.map enc) := by
 unfold putRow; refine Go.Sort.mapBlock_congr _ _ _ _ fun c _ _ _ => ?_; apply Array.ext
 · simp [putCells]
 · intro k h1 h2; simp only [putCells, Array.getElem_mapIdx, Array.size_map, Nat.sub_zero, id]; split
   · rename_i hlt; rw [getElem!_pos d k (by omega), getElem!_pos (d.map enc) k (by simp; omega)]; simp
   · rfl
structure Sorted (w w' : World) (g : Nat) (e : TypeId) (cur : Array Value) (F : Array Value) : Prop where
 os : w'.os = w.os
 tape : w'.tape = w.tape
 output : w'.output = w.output
 size : w.heap.size ≤ w'.heap.size
 drawn : w.drawn ≤ w'.drawn
 block : ∀ b, b < w.heap.size → b ≠ g → w'.heap[b]? = w.heap[b]?
 row : ∃ cur' : Array Value, w'.heap[g]? = some (.cells cur' e (0, 0)) ∧ cur'.toList = F.toList ++ cur.toList.drop F.size
theorem jB3 {g : Nat} {e : TypeId} {cur F : Array Value} (hg : w.heap[g]? = some (.cells cur e (0, 0))) (hF : F.size ≤ cur.size) (n : Nat) (os : Array Obj) : Sorted w (grow (putRow id (Go.Sort.ahead w n) g 0 F) os) g e cur F := by
 have hlt : g < w.heap.size := (Array.getElem?_eq_some_iff.1 hg).1; refine ⟨rfl, rfl, rfl, by simp, by simp [grow, putRow, mapBlock, Go.Sort.ahead], fun b hb hne => ?_, putCells id 0 F cur, ?_, kB1 F cur hF⟩
 · rw [Go.Sort.heap_grow_old _ _ (by simpa using hb)]; simp [putRow, mapBlock, Go.Sort.ahead, Array.getElem?_modify, Ne.symm hne]
 · rw [Go.Sort.heap_grow_old _ _ (by simpa using hlt)]; simp [putRow, mapBlock, Go.Sort.ahead, Array.getElem?_modify, hg, onCells]
theorem cB9 (h : RepM cx σ N m w) {id : Nat} (hn : ¬ N id) {e : TypeId} {t : Ty} {xs : List t.den} (hm : m id = .row e t xs) {g cap : Nat} {cur : Array Value} (hσ : σ id = .slice (some ⟨g, 0, none⟩) xs.length cap) (hc : 0 < cap)
 (hg : w.heap[g]? = some (.cells cur e (0, 0))) (hlc : xs.length ≤ cap) (hcm : cap ≤ maxLen) (hcs : cur.size = cap * t.n) {xs' : List t.den} (hl : xs'.length = xs.length) {F : Array Value} (hF : roAll (ro w (Owned cx σ m) t) xs' F.toList) {w' : World} (hw : Sorted w w' g e cur F) (fr : Nat) (p : Prop) {q : Prop} (hq : q) :
 Res cx σ N m w fr ⟨p, .tup [], [(id, .row e t xs')], q⟩ (.tuple #[]) w' := by
 have hFl := nA0 (fun x c => qA0 t x c) _ _ hF; rw [Array.length_toList] at hFl; obtain ⟨cur', hg', hcur'⟩ := hw.row; obtain ⟨g1, g2⟩ := h.step (σ' := σ) (N' := Nx N fr) (m' := upd m id (.row e t xs')) (w' := w') (fun i => i = id) (fun _ k => k.1)
  (fun i k => by
    by_cases hi : i = id
    · subst hi; exact absurd k.1 hn
    · rw [iA0 _ _ hi]; exact h.fresh i k.1)
  (fun i k => ⟨iA0 _ _ k, rfl⟩) (fun _ _ => rfl)
  (fun b hb hx => hw.block b hb (fun e' => hx id rfl (by rw [hm]; rfl) (by rw [hσ, e']; exact .inl (gA0 hc)))) ⟨hw.size, hw.drawn⟩ hw.os hw.tape hw.output
  (fun i b hi _ hb => .inr ⟨id, rfl, by rw [hm]; rfl, by rw [← hi]; exact hb⟩)
  (fun i i' b hi hi' _ _ _ _ => hi.trans hi'.symm) (fun i _ => h.hone i)
  (fun hk i hi => by
    subst hi; rw [upd_same]; have hfit : xs.length * t.n ≤ cap * t.n := Nat.mul_le_mul_right _ hlc; refine ⟨xs'.length, F.toList, rfl, ?_, fA0 (hA0 hk.k t) _ _ hF⟩; simp only [rx]; rw [hσ, ← hl]; refine bA4 (by rw [Array.length_toList, hFl]) hg' (by omega) hcm ?_ ?_
    · rw [← Array.length_toList, hcur']; simp only [List.length_append, Array.length_toList, List.length_drop, hcs, hFl, hl]; omega
    · rw [hcur', ← hFl, ← Array.length_toList]; exact List.take_left)
 refine ⟨σ, g1, g2, ?_, hq⟩; unfold repA; exact ⟨[], rfl, by unfold repAs; rfl⟩
def sortI (xs : List Int) : List Int := xs.mergeSort fun x y => decide (x ≤ y)
theorem pC4 {O : Nat → Prop} {k : IntKind} : ∀ (xs : List Int) (flat : List Value), roAll (ro w O (.int k)) xs flat → flat = xs.map (Value.int k) ∧ ∀ x ∈ xs, InR k x
 | [], flat, h => ⟨h, by simp⟩
 | x :: xs, _, ⟨c, d, e, h, hr⟩ => by
   obtain ⟨h1, h2⟩ := pC4 xs d hr; obtain ⟨g1, g2⟩ := h; refine ⟨by rw [e, g1, h1]; rfl, fun y hy => ?_⟩
   rcases List.mem_cons.1 hy with rfl | hy
   · exact g2
   · exact h2 y hy
theorem hC1 {O : Nat → Prop} {k : IntKind} : ∀ (xs : List Int), (∀ x ∈ xs, InR k x) → roAll (ro w O (.int k)) xs (xs.map (Value.int k))
 | [], _ => rfl
 | x :: xs, h => ⟨[.int k x], _, rfl, ⟨rfl, h x List.mem_cons_self⟩, hC1 xs fun y hy => h y (List.mem_cons_of_mem _ hy)⟩
def sortCon (e : TypeId) : Con := { ps := [.o e (.int .i64)], rs := [], pre := fun x => x.1.length < 4611686018427387904, out := fun _ => (), nw := fun x => (sortI x.1, ()) }
theorem aC7 {ρ : Go.Shelf.Ren} (L : Go.Proofs.SlLaysM.n5 P ρ) (e : TypeId) : CtrOk P (ρ.f 5) (sortCon e).ctr := by
 intro D gv hDS cx hcd σ N m w fr avs vs h hfr hreps hp; unfold Con.ctr Con.effO at hp ⊢
 cases hrd : rds m (sortCon e).ps avs with
 | none => rw [hrd] at hp; exact hp.elim
 | some x =>
   rw [hrd] at hp; simp only at hp ⊢; split at hp
   · rename_i hid; rw [if_pos hid]; obtain ⟨xs, u⟩ := x; cases u
     match avs, hrd, hreps, hid with
     | [v], hrd, hreps, hid =>
       simp only [sortCon, rds] at hrd; obtain ⟨h1, _⟩ := bA1 hrd; obtain ⟨id, rfl, h2⟩ := jD2 h1; have hm := eA2 h2; unfold repAs at hreps; obtain ⟨v0, r, rfl, h3, h4⟩ := hreps; unfold repAs at h4; subst h4; unfold repA repC at h3; obtain ⟨hn, rfl⟩ := h3; simp only [rx] at hn ⊢; have hsz : xs.length < 4611686018427387904 := hp; have goal_eff : ∀ (w' : World), Res cx σ N m w fr ⟨xs.length < 4611686018427387904, .tup [], [(id, .row e (.int .i64) (sortI xs))], True⟩ (.tuple #[]) w' →
        ∃ v, Ending.returned (.tuple #[]) = .returned v ∧ Res cx σ N m w fr ((sortCon e).eff [.one (.row id)] m fr (xs, ())) v w' := fun w' hr => ⟨_, rfl, hr⟩
       have hb := h.blk id; rw [hm] at hb; obtain ⟨n', flat, rfl, k1, k2⟩ := hb; simp only [rx] at k1 k2; obtain ⟨hfl, hin⟩ := pC4 xs flat k2
       rcases k1.2 with ⟨e2, a0, e1⟩ | ⟨g, cap, cur, hc, e1, hg, hlc, hcm, hcs, htk⟩
       · have hx : xs = [] := List.eq_nil_of_length_eq_zero e2; subst hx; rw [e1]; refine (Go.Proofs.AnyM.slices_Sort_int_none L a0 0 w).mono ?_; rintro e' w' ⟨rfl, rfl⟩; refine goal_eff _ ?_; have hs : sortI [] = [] := by simp [sortI]
         rw [hs]; obtain ⟨g1, g2⟩ := h.weaken (N' := Nx N fr) (fun _ k => k.1); have hmm : updM m [(id, Blk.row e (.int .i64) [])] = m := dB1 hm; refine ⟨σ, ?_, ?_, ?_, trivial⟩ <;> simp only [hmm]
         · exact g1
         · exact g2
         · unfold repA; exact ⟨[], rfl, by unfold repAs; rfl⟩
       · have hcz : flat.length = xs.length * 1 := k1.1; have hH : Holds (Value.int .i64) w g 0 xs.toArray := by
          intro j hj; have hj' : j < xs.length := by simpa using hj
          rw [Nat.zero_add]; refine ⟨?_, by simp [World.frozen?, hg]⟩; refine hA1 k1 (g := g) (by rw [e1]; exact gA0 hc) j _ ?_; rw [hfl, List.getElem?_map, List.getElem?_eq_getElem hj', getElem!_pos xs.toArray j hj]; rfl
         have hlt : g < w.heap.size := (Array.getElem?_eq_some_iff.1 hg).1; rw [e1]; refine (Go.Proofs.AnyM.slices_Sort_int L g 0 cap xs w hH hlt hsz).mono ?_; rintro e' w' ⟨rfl, n, os, rfl⟩; refine goal_eff _ ?_; rw [zB9]; have hl : (sortI xs).length = xs.length := List.length_mergeSort xs; refine cB9 h hn hm e1 hc hg hlc hcm hcs hl ?_ (jB3 hg ?_ n os) fr _ trivial
         · have : ((sortI xs).toArray.map (Value.int .i64)).toList = (sortI xs).map (Value.int .i64) := by simp
           rw [show (List.mergeSort xs fun x y => decide (x ≤ y)) = sortI xs from rfl, this]; exact hC1 _ fun x hx => hin x ((List.mergeSort_perm xs _).mem_iff.1 hx)
         · have h9 : cap * 1 = cur.size := hcs.symm; simp only [List.map_toArray, List.size_toArray, List.length_map, List.length_mergeSort]
           omega
     | [], hrd, _, _ => simp [sortCon, rds] at hrd
     | _ :: _ :: _, hrd, _, _ => 
       simp only [sortCon, rds] at hrd; obtain ⟨_, h2⟩ := bA1 hrd; cases h2
   · exact hp.elim
end
end Go.Ev

set_option maxRecDepth 100000
set_option maxHeartbeats 8000000
namespace Go.Proofs.YtabadacjbkhmkaaGreatDoor
open Go.Ev
def con105 : Con := { ps := [.o 3 yI], rs := [], pre := fun x => x.1.length < 4611686018427387904, out := fun _ => (), nw := fun x => (sortI x.1, ()) }
theorem c105 : CtrOk Tryz.prog 105 con105.ctr := aC7 Tryz.sortA 3
theorem gC4 (l : List Int) : (sortI l).length = l.length := List.length_mergeSort l
theorem vB9 (l : List Int) : (sortI l).Perm l := List.mergeSort_perm l _
def ddU (xs : List Int) : Nat → List Int
 | 0 => []
 | i + 1 => ddU xs i ++ if i ≠ 0 ∧ xs.getD i 0 = xs.getD (i - 1) 0 then [] else [xs.getD i 0]
def compV (xs : List Int) : List Int := ddU xs xs.length
def con106 : Con := { ps := [.oc 3 yI], rs := [.o 3 yI], pre := fun x => True, out := fun x => (compV x.1, ()), nw := id }
theorem c106 : CtrOk Tryz.prog 106 con106.ctr :=
 aA0 (G := ⟨[], [], [(9, 2), (28, 1), (56, 1), (59, 2), (60, 2)], [], []⟩) eA0 EnvOk.nil rfl Tryz.func106 rfl con106 17596514574653 (by kernel_rfl) (by decide) (by decide) rfl (by decide) rfl (by
  rintro ⟨(xs : List Int), _⟩ hpre hwf X hT hG hk hK
  (simp -implicitDefEqProofs (maxSteps := 4000000) only [go_sem, bP, con106, hT, hG, hk, hK, Tryz.results106] at hwf ⊢); (try simp (disch := decide +kernel) only [drawn, true_and, and_true])
  refine fun hln => ⟨fun h2 => ?_, fun h2 => ?_⟩
  · match xs, h2 with
    | [], _ => rfl
    | [a], _ => rfl
    | a :: b :: l, h2 => simp at h2; omega
  · refine cA0 ⟨{ k : Nat // 1 ≤ k ∧ k ≤ xs.length ∧ ddU xs k = xs.take k }, 1000, fun k => [(0, .one (.row 0)), (3, .one (.int .i64 k.1))], fun k => [(0, .row 3 yI xs)], fun k => xs.length - k.1⟩ ⟨1, by omega, by omega, by simp [ddU]; match xs, h2 with | [], h2 => simp at h2 | a :: l, _ => rfl⟩ ?_ ?_
    · simp only [go_sem]; rfl
    · rintro ⟨k, (hk1 : 1 ≤ k), (hk2 : k ≤ xs.length), (hk3 : ddU xs k = xs.take k)⟩
      (simp -implicitDefEqProofs (maxSteps := 4000000) only [go_sem, bP, con106, hT, hG, hk, hK, Tryz.results106]); (try simp (disch := decide +kernel) only [drawn, true_and, and_true])
      refine fun _ => ⟨fun hlt => ?_, fun hge => ?_⟩
      · have hkl : k < xs.length := by omega
        have e1 : ∀ z, xs.getD (k : Int).toNat z = xs[k] := fun z => by simp [hkl]
        have e2 : ∀ z, xs.getD ((k : Int) - 1).toNat z = xs[k - 1] := fun z => by
         rw [show ((k : Int) - 1).toNat = k - 1 by omega]; simp [show k - 1 < xs.length by omega]
        have f1 : ∀ i (h : i < xs.length), xs.getD i 0 = xs[i] := fun i h => by simp [h]
        simp only [e1, e2]; refine ⟨⟨by omega, by omega⟩, fun _ => ⟨⟨by omega, by omega⟩, fun _ => ⟨⟨by omega, by omega⟩, ⟨by omega, by omega⟩, fun _ => ⟨⟨by omega, by omega⟩, fun _ => ⟨fun heq => ⟨⟨by omega, by omega, by omega⟩, ?_⟩, fun hne => ?_⟩⟩⟩⟩⟩
        · have b0 : ddU xs (k + 1) = xs.take k := by
           rw [ddU, f1 k hkl, f1 (k - 1) (by omega), if_pos ⟨by omega, heq⟩, List.append_nil, hk3]
          have g1 : (k : Int).toNat = k := by omega
          have g2 : ((xs.length : Int) - (k : Int)).toNat = xs.length - k := by omega
          rw [g1, g2]; refine cA0 ⟨{ q : Nat × Nat × List Int // k ≤ q.1 ∧ q.1 ≤ k + q.2.1 - 1 ∧ 1 ≤ q.2.1 ∧ q.2.1 ≤ xs.length - k ∧ q.2.2.length = xs.length ∧ q.2.2.take q.1 = ddU xs (k + q.2.1) ∧ q.2.2.drop (k + q.2.1 - 1) = xs.drop (k + q.2.1 - 1) }, 2000, fun q => [(0, .one (.row 0)), (3, .one (.int .i64 q.1.1)), (4, .one (.win 0 1 k (xs.length - k))), (5, .one (.int .i64 q.1.2.1))], fun q => [(0, .row 3 yI q.1.2.2)], fun q => xs.length - q.1.2.1⟩ ⟨(k, 1, xs), by dsimp only; omega, by dsimp only; omega, by dsimp only; omega, by dsimp only; omega, rfl, b0.symm, rfl⟩ ?_ ?_
          · simp only [go_sem]; rfl
          · rintro ⟨⟨a, p, R⟩, (c1 : k ≤ a), (c2 : a ≤ k + p - 1), (c3 : 1 ≤ p), (c4 : p ≤ xs.length - k), (c5 : R.length = xs.length), (c6 : R.take a = ddU xs (k + p)), (c7 : R.drop (k + p - 1) = xs.drop (k + p - 1))⟩; have hw : (k + (xs.length - k) ≤ R.length) = True := by rw [eq_iff_iff, iff_true]; omega
            (simp -implicitDefEqProofs (maxSteps := 4000000) only [go_sem, bP, con106, hT, hG, hk, hK, Tryz.results106, hw]); (try simp (disch := decide +kernel) only [drawn, true_and, and_true])
            have at_ : ∀ i, k + p - 1 ≤ i → ∀ z, R.getD i z = xs.getD i z := fun i hi z => by
             have h := congrArg (fun l : List Int => l[i - (k + p - 1)]?) c7; simp only [List.getElem?_drop] at h; rw [show k + p - 1 + (i - (k + p - 1)) = i by omega] at h; rw [gdE, gdE, h]
            have f2 : ((k : Int) + (p : Int)).toNat = k + p := by omega
            have f3 : ((k : Int) + ((p : Int) - 1)).toNat = k + p - 1 := by omega
            have f4 : (a : Int).toNat = a := by omega
            simp only [f2, f3, f4]; rw [at_ (k + p) (by omega) 0, at_ (k + p - 1) (Nat.le_refl _) 0]; have hst : ddU xs (k + p + 1) = ddU xs (k + p) ++ if xs.getD (k + p) 0 = xs.getD (k + p - 1) 0 then [] else [xs.getD (k + p) 0] := by
             rw [ddU]; by_cases h : xs.getD (k + p) 0 = xs.getD (k + p - 1) 0
             · rw [if_pos ⟨by omega, h⟩, if_pos h]
             · rw [if_neg (fun q => h q.2), if_neg h]
            refine fun _ => ⟨fun hlt2 => ⟨⟨by omega, by omega⟩, fun _ => ⟨⟨by omega, by omega⟩, fun _ => ⟨⟨by omega, by omega⟩, ⟨by omega, by omega⟩, fun _ => ⟨⟨by omega, by omega⟩, fun _ => ⟨fun hne => ⟨⟨by omega, by omega⟩, fun _ => ⟨⟨by omega, by omega⟩, fun _ => ⟨⟨by omega, by omega⟩, fun _ => ⟨⟨by omega, by omega⟩, ⟨by omega, by omega⟩, ⟨by omega, by omega⟩, ?_⟩⟩⟩⟩, fun heq2 => ⟨⟨by omega, by omega⟩, ?_⟩⟩⟩⟩⟩⟩, fun hge2 => ?_⟩
            · rw [if_neg hne] at hst; refine dA0 ⟨(a + 1, p + 1, R.set a (xs.getD (k + p) 0)), by dsimp only; omega, by dsimp only; omega, by dsimp only; omega, by dsimp only; omega, by dsimp only; rw [List.length_set]; exact c5, ?_, ?_⟩ ?_ (by dsimp only; omega)
              · dsimp only; rw [← Nat.add_assoc, hst, ← c6, tsE (by rw [List.length_set]; omega), List.take_set_of_le (Nat.le_refl _), List.getElem_set_self]
              · dsimp only; rw [List.drop_set_of_lt (by omega)]; have := congrArg (List.drop 1) c7; rw [List.drop_drop, List.drop_drop, show k + p - 1 + 1 = k + (p + 1) - 1 by omega] at this; exact this
              · simp only [go_sem]
                and_intros <;> first | rfl | omega
            · rw [if_pos (by omega)] at hst; refine dA0 ⟨(a, p + 1, R), by dsimp only; omega, by dsimp only; omega, by dsimp only; omega, by dsimp only; omega, c5, ?_, ?_⟩ ?_ (by dsimp only; omega)
              · dsimp only; rw [← Nat.add_assoc, hst, List.append_nil, c6]
              · dsimp only; have := congrArg (List.drop 1) c7; rw [List.drop_drop, List.drop_drop, show k + p - 1 + 1 = k + (p + 1) - 1 by omega] at this; exact this
              · simp only [go_sem]
                and_intros <;> first | rfl | omega
            · have hp : k + p = xs.length := by omega
              have g3 : ((R.length : Int) - (a : Int)).toNat = R.length - a := by omega
              have g4 : (a + (R.length - a) ≤ R.length) = True := by rw [eq_iff_iff, iff_true]; omega
              refine ⟨⟨by omega, by omega, by omega⟩, ?_⟩; rw [g3]
              (simp -implicitDefEqProofs (maxSteps := 4000000) only [go_sem, bP, con106, hT, hG, hk, hK, Tryz.results106, g4]); (try simp (disch := decide +kernel) only [drawn, true_and, and_true])
              have e5 : (R.take a).length = a := by rw [List.length_take]; omega
              refine ⟨⟨by omega, by rw [List.length_append, e5]; omega⟩, ?_⟩; rw [show (a : Int).toNat = a by omega, List.take_append_of_le_length (by omega), List.take_of_length_le (by omega), c6, hp]; rfl
        · refine ⟨⟨by omega, by omega⟩, ?_⟩; refine dA0 ⟨k + 1, by omega, by omega, ?_⟩ ?_ (by dsimp only; omega)
          · rw [ddU, f1 k hkl, f1 (k - 1) (by omega), if_neg (fun q => hne q.2), hk3, tsE hkl]
          · simp only [go_sem]
            and_intros <;> first | rfl | omega
      · have : k = xs.length := by omega
        subst this; unfold compV; rw [hk3, List.take_length])
theorem aC4 {α : Type} (p : α → Bool) (l : List α) : (idxV p l = -1 ∧ ∀ y ∈ l, p y = false) ∨ ∃ (i : Nat) (h : i < l.length), idxV p l = i ∧ p l[i] = true ∧ ∀ k (hk : k < i), p (l[k]'(by omega)) = false := by
 by_cases h : l.findIdx p < l.length
 · right; refine ⟨l.findIdx p, h, by unfold idxV; rw [if_pos h], List.findIdx_getElem, fun k hk => ?_⟩; have := List.not_of_lt_findIdx hk; simpa using this
 · left; refine ⟨by unfold idxV; rw [if_neg h], fun y hy => ?_⟩; have h1 : l.findIdx p = l.length := by have := List.findIdx_le_length (xs := l) (p := p); omega
   exact List.findIdx_eq_length.1 h1 y hy
def con73 : Con := { ps := [.d false yI], rs := [.d false .bool], pre := fun _ => True, out := fun (x : Int × Unit) => (decide (x.1 = 0), ()), nw := id }
theorem c73 : CtrOk Tryz.prog 73 con73.ctr :=
 aA0 eA0 eN rfl Tryz.func73 rfl con73 5 (by kernel_rfl) (by decide) (by decide) rfl (by decide) rfl (by
  rintro ⟨(b : Int), _⟩ hpre hwf X hT hG hk hK
  (simp -implicitDefEqProofs (maxSteps := 4000000) only [go_sem, bP, con73, hT, hG, hk, hK, Tryz.results73] at hwf ⊢))
def conIiA : Con := { ps := [.d false (.sl yI), .cl 73 []], rs := [.d false yI], pre := fun _ => True, out := fun (x : List Int × Unit × Unit) => (idxV (fun y : Int => decide (y = 0)) x.1, ()), nw := id }
theorem cIiA : CtrOk Tryz.prog 104 conIiA.ctr :=
 aA0 eA0 (eC c73 has73 eN) rfl Tryz.func104 rfl conIiA 66483 (by kernel_rfl) (by decide) (by decide) rfl (by decide) rfl (by
  rintro ⟨(l : List Int), _⟩ hpre hwf X hT hG hk hK
  (simp -implicitDefEqProofs (maxSteps := 4000000) only [go_sem, bP, conIiA, con73, hT, hG, hk, hK, Tryz.results104] at hwf ⊢)
  clear hwf; refine fun _ => cA0 ⟨{ i : Nat // i ≤ l.length ∧ ∀ k (h : k < l.length), k < i → decide (l[k] = 0) = false }, 1000, fun q => [(0, .one (.sl yI l false)), (1, .one (.fn 73 [])), (7, .one (.int .i64 l.length)), (8, .one (.int .i64 q.1))], fun _ => [], fun q => l.length - q.1⟩ ⟨0, Nat.zero_le _, fun k h hk => by omega⟩ ?_ ?_
  · simp only [go_sem]; rfl
  · rintro ⟨i, (hi : i ≤ l.length), hz⟩
    (simp -implicitDefEqProofs (maxSteps := 4000000) only [go_sem, bP, conIiA, con73, hT, hG, hk, hK, Tryz.results104])
    refine ⟨fun hlt => ?_, fun hge => ?_⟩
    · have hi' : i < l.length := by omega
      have ek : ∀ z, l.getD (i : Int).toNat z = l[i] := fun z => by simp [hi']
      simp only [ek]
      (repeat' with_reducible first | refine And.intro ?_ ?_ | intro _) <;> try first | with_reducible (first | assumption | omega | contradiction) | decide
      all_goals first
       | (have h : l[i] = 0 := by assumption
          exact (vA1 (p := fun y : Int => decide (y = 0)) hi' (decide_eq_true h) (fun k hk => hz k (by omega) hk)).symm)
       | (have h : ¬ l[i] = 0 := by assumption
          refine dA0 ⟨i + 1, by omega, fun k hk1 hk => ?_⟩ ?_ (by dsimp only; omega)
          · by_cases e : k = i
            · subst e; exact decide_eq_false h
            · exact hz k hk1 (by omega)
          · simp only [go_sem]
            try rfl
          done)
    · exact (mA1 (p := fun y : Int => decide (y = 0)) (fun k hk => hz k hk (by omega))).symm)
theorem mD2 {α : Type} {R l : List α} {r : Nat} (h : R.drop r = l.drop r) (hr : r < R.length) (hl : r < l.length) : R[r] = l[r] := by
 have := congrArg (fun q : List α => q[0]?) h; simp only [List.getElem?_drop, Nat.add_zero] at this; rw [List.getElem?_eq_getElem hr, List.getElem?_eq_getElem hl] at this; exact Option.some.inj this
theorem dB7 {l : List Int} {n : Int} (h : ∀ y ∈ l, decide (y = n) = false) : othF l n = l := by
 unfold othF; rw [List.filter_eq_self]; intro y hy; have := h y hy; rw [decide_eq_false_iff_not] at this; simpa using this
def con71 : Con := { ps := [.oc 3 yI, .cl 73 []], rs := [.d false (.sl yI)], pre := fun x => x.1.length ≤ 1048576, out := fun x => (othF x.1 0, ()), nw := id }
theorem c71 : CtrOk Tryz.prog 71 con71.ctr :=
 aA0 (G := ⟨[(104, conIiA.ctr), (73, con73.ctr)], [], [(13, 2), (38, 1), (41, 2)], [], []⟩) eA0 (EnvOk.cons cIiA has104 (EnvOk.cons c73 has73 EnvOk.nil)) rfl Tryz.func71 rfl con71 537399539 (by kernel_rfl) (by decide) (by decide) rfl (by decide) rfl (by
  rintro ⟨(l : List Int), _⟩ hpre hwf X hT hG hk hK; have hl : l.length ≤ 1048576 := hpre
  (simp -implicitDefEqProofs (maxSteps := 4000000) only [go_sem, bP, con71, conIiA, con73, hT, hG, hk, hK, Tryz.results71] at hwf ⊢)
  have hs := aC4 (fun d : Int => decide (d = 0)) l; generalize idxV (fun d : Int => decide (d = 0)) l = q at hs ⊢; refine fun _ => ⟨fun h => ?_, fun h => ?_⟩
  · rcases hs with ⟨_, h2⟩ | ⟨i, hi, h1, _⟩
    · exact (dB7 h2).symm
    · omega
  · rcases hs with ⟨h1, _⟩ | ⟨i, hi, h1, h2, h3⟩
    · exact absurd h1 h
    · refine ⟨⟨by omega, by omega⟩, ?_⟩; have hq : q = i := by omega
      subst hq; have b1 : l.take i = othF (l.take (i + 1)) 0 := by
       rw [pA3 hi, if_neg (by simpa using h2), dB7]; intro y hy; obtain ⟨k, hk, rfl⟩ := List.getElem_of_mem hy; rw [List.length_take] at hk; rw [List.getElem_take]; exact h3 k (by omega)
      refine cA0 ⟨{ q : Nat × Nat × List Int // q.1 ≤ q.2.1 ∧ q.2.1 ≤ l.length ∧ q.2.2.length = l.length ∧ q.2.2.take q.1 = othF (l.take q.2.1) 0 ∧ q.2.2.drop q.2.1 = l.drop q.2.1 }, 1000, fun q => [(0, .one (.row 0)), (1, .one (.fn 73 [])), (5, .one (.int .i64 q.1.1)), (6, .one (.int .i64 q.1.2.1))], fun q => [(0, .row 3 yI q.1.2.2)], fun q => l.length - q.1.2.1⟩ ⟨(i, i + 1, l), by simp, by simp; omega, rfl, b1, rfl⟩ ?_ ?_
      · simp only [go_sem]; rfl
      · rintro ⟨⟨a, r, R⟩, (c1 : a ≤ r), (c2 : r ≤ l.length), (c3 : R.length = l.length), (c4 : R.take a = othF (l.take r) 0), (c5 : R.drop r = l.drop r)⟩
        (simp -implicitDefEqProofs (maxSteps := 4000000) only [go_sem, bP, con71, conIiA, con73, hT, hG, hk, hK, Tryz.results71])
        refine fun _ => ⟨fun hlt => ?_, fun hge => ?_⟩
        · have hr : r < R.length := by omega
          have hr2 : r < l.length := by omega
          have ek : ∀ z, R.getD (r : Int).toNat z = l[r] := fun z => by rw [← mD2 c5 hr hr2]; simp [hr]
          simp only [ek]; have hd : R.drop (r + 1) = l.drop (r + 1) := by rw [← List.drop_drop, c5, List.drop_drop]
          have hst := pA3 (nt := 0) hr2
          (repeat' with_reducible first | refine And.intro ?_ ?_ | intro _) <;> try first | with_reducible (first | assumption | omega | contradiction) | decide
          all_goals first
           | omega
           | (have h0 : ¬ l[r] = 0 := by assumption
              have har : a < R.length := by omega
              refine dA0 ⟨(a + 1, r + 1, R.set a l[r]), by dsimp only; omega, by dsimp only; omega, by dsimp only; rw [List.length_set]; exact c3, ?_, ?_⟩ ?_ (by dsimp only; omega)
              · dsimp only; rw [hst, if_pos h0, ← c4, tsE (by rw [List.length_set]; omega), List.take_set_of_le (Nat.le_refl _), List.getElem_set_self]
              · dsimp only; rw [List.drop_set_of_lt (by omega), hd]
              · simp only [go_sem]
                try first | rfl | (and_intros <;> first | trivial | rfl | omega)
              done)
           | (have h0 : l[r] = 0 := by assumption
              refine dA0 ⟨(a, r + 1, R), by dsimp only; omega, by dsimp only; omega, c3, by dsimp only; rw [hst, if_neg (fun q => q h0)]; exact c4, hd⟩ ?_ (by dsimp only; omega); simp only [go_sem]
              try rfl
              done)
        · refine ⟨by omega, ?_⟩; have hr : r = l.length := by omega
          have e1 : (a : Int).toNat = a := by omega
          have e2 : ((R.length : Int) - (a : Int)).toNat = R.length - a := by omega
          have e3 : (a + (R.length - a) ≤ R.length) = True := by rw [eq_iff_iff, iff_true]; omega
          (simp -implicitDefEqProofs (maxSteps := 4000000) only [go_sem, bP, con71, conIiA, con73, hT, hG, hk, hK, Tryz.results71, e1, e2, e3])
          have e5 : (R.take a).length = a := by rw [List.length_take]; omega
          have e4 : List.take a (List.take a R ++ (List.replicate (R.length - a) (0 : Int) ++ List.drop (a + (R.length - a)) R)) = othF l 0 := by
           rw [List.take_append_of_le_length (by omega), List.take_of_length_le (by omega), c4, hr, List.take_of_length_le (Nat.le_refl _)]
          first
           | (refine ⟨⟨by omega, ?_⟩, e4⟩
              rw [List.length_append, e5]; omega))
def lstS (l : List Hy) (n : Int) : Nat → List Int
 | 0 => []
 | i + 1 => match lastO (l.getD i hy0).2 n with
   | none => lstS l n i
   | some v => lstS l n i ++ [v]
theorem jB7 (l : List Hy) (n : Int) : ∀ i, (lstS l n i).length ≤ i
 | 0 => Nat.le_refl _
 | i + 1 => by
   have ih := jB7 l n i; unfold lstS; split
   · omega
   · rw [List.length_append, List.length_singleton]; omega
attribute [local go_sem] List.set_cons_succ List.set_cons_zero List.getD_cons_succ List.getD_cons_zero List.set_nil
theorem sB4 (l : List Int) : (sortI l).Pairwise (· ≤ ·) := by
 have h := List.pairwise_mergeSort (le := fun x y : Int => decide (x ≤ y)) (fun a b c => by simp; omega) (fun a b => by simp; omega) l; exact h.imp (fun h => by simpa using h)
theorem bB8 (xs : List Int) (hs : xs.Pairwise (· ≤ ·)) : ∀ i, i ≤ xs.length → (ddU xs i).Pairwise (· < ·) ∧ ∀ x, x ∈ ddU xs i ↔ x ∈ xs.take i
 | 0, _ => by simp [ddU]
 | i + 1, h => by
   obtain ⟨ih1, ih2⟩ := bB8 xs hs i (by omega); have hi : i < xs.length := by omega
   have g1 : xs.getD i 0 = xs[i] := by simp [hi]
   have ht : xs.take (i + 1) = xs.take i ++ [xs[i]] := tsE hi; have hle : ∀ x ∈ xs.take i, x ≤ xs.getD (i - 1) 0 ∧ xs.getD (i - 1) 0 ∈ xs.take i := fun x hx => by
    obtain ⟨j, hj, rfl⟩ := List.getElem_of_mem hx; have hj2 : j < i := by simp at hj; omega
    have g2 : xs.getD (i - 1) 0 = xs[i - 1] := by simp [show i - 1 < xs.length by omega]
    rw [g2, List.getElem_take]; refine ⟨?_, ?_⟩
    · by_cases e : j = i - 1
      · subst e; exact Int.le_refl _
      · exact List.pairwise_iff_getElem.1 hs j (i - 1) (by omega) (by omega) (by omega)
    · have : (xs.take i)[i - 1]'(by simp; omega) = xs[i - 1] := List.getElem_take; rw [← this]; exact List.getElem_mem _
   rw [ddU, ht, g1]; split
   · rename_i e; rw [List.append_nil]; refine ⟨ih1, fun x => ?_⟩; rw [ih2, List.mem_append]; refine ⟨.inl, fun k => k.elim id fun k => ?_⟩; have k : x = xs[i] := by simpa using k
     rw [k, e.2]; have h0 : xs[0]'(by omega) ∈ xs.take i := by
      have : (xs.take i)[0]'(by simp; omega) = xs[0]'(by omega) := List.getElem_take; rw [← this]; exact List.getElem_mem _
     exact (hle _ h0).2
   · rename_i e; refine ⟨List.pairwise_append.2 ⟨ih1, by simp, fun x hx y hy => ?_⟩, fun x => by simp only [List.mem_append, ih2]⟩; have hy : y = xs[i] := by simpa using hy
     subst hy; have hx2 := (ih2 x).1 hx; have h3 := hle x hx2; have hi0 : i ≠ 0 := fun q => by subst q; simp at hx2
     have h4 : xs.getD (i - 1) 0 ≤ xs[i] := by
      have g2 : xs.getD (i - 1) 0 = xs[i - 1] := by simp [show i - 1 < xs.length by omega]
      rw [g2]; exact List.pairwise_iff_getElem.1 hs (i - 1) i (by omega) (by omega) (by omega)
     have h5 : xs[i] ≠ xs.getD (i - 1) 0 := fun q => e ⟨hi0, q⟩; omega
theorem xB9 (t : List Int) : (compV (sortI t)).Pairwise (· < ·) ∧ ∀ x, x ∈ compV (sortI t) ↔ x ∈ t := by
 obtain ⟨h1, h2⟩ := bB8 (sortI t) (sB4 t) (sortI t).length (Nat.le_refl _); refine ⟨h1, fun x => ?_⟩; unfold compV; rw [h2, List.take_length]; exact (vB9 t).mem_iff
theorem tB4 : ∀ {a b : List Int}, (∀ x, x ∈ a ↔ x ∈ b) → a.Pairwise (· < ·) → b.Pairwise (· < ·) → a = b
 | [], [], _, _, _ => rfl
 | [], y :: b, h, _, _ => absurd ((h y).2 List.mem_cons_self) (by simp)
 | x :: a, [], h, _, _ => absurd ((h x).1 List.mem_cons_self) (by simp)
 | x :: a, y :: b, h, ha, hb => by
   rw [List.pairwise_cons] at ha hb; have e : x = y := by
    have h1 := (h x).1 List.mem_cons_self; have h2 := (h y).2 List.mem_cons_self
    rcases List.mem_cons.1 h1 with h1 | h1
    · exact h1
    · rcases List.mem_cons.1 h2 with h2 | h2
      · exact h2.symm
      · have := hb.1 x h1; have := ha.1 y h2; omega
   subst e; rw [tB4 (fun z => ?_) ha.2 hb.2]; constructor
   · intro hz
     rcases List.mem_cons.1 ((h z).1 (List.mem_cons_of_mem _ hz)) with e | hz2
     · subst e; exact absurd (ha.1 z hz) (by omega)
     · exact hz2
   · intro hz
     rcases List.mem_cons.1 ((h z).2 (List.mem_cons_of_mem _ hz)) with e | hz2
     · subst e; exact absurd (hb.1 z hz) (by omega)
     · exact hz2
theorem sB3 (a n : Int) (l : List Int) : putV (a :: l) n = if a < n then a :: putV l n else n :: a :: l := by
 unfold putV befN; rw [List.takeWhile_cons]; by_cases h : a < n
 · rw [if_pos h, if_pos (decide_eq_true h)]; rfl
 · rw [if_neg h, if_neg (by simpa using h)]; rfl
theorem kB2 (n : Int) : ∀ (l : List Int) (x : Int), x ∈ putV l n ↔ x = n ∨ x ∈ l
 | [], x => by unfold putV; simp
 | a :: l, x => by
   rw [sB3]; split
   · rw [List.mem_cons, kB2 n l x, List.mem_cons]; constructor
     · rintro (h | h | h)
       · exact .inr (.inl h)
       · exact .inl h
       · exact .inr (.inr h)
     · rintro (h | h | h)
       · exact .inr (.inl h)
       · exact .inl h
       · exact .inr (.inr h)
   · rw [List.mem_cons]
theorem sC2 (n : Int) : ∀ {l : List Int}, l.Pairwise (· < ·) → n ∉ l → (putV l n).Pairwise (· < ·)
 | [], _, _ => by unfold putV; simp
 | a :: l, h, hn => by
   rw [sB3]; rw [List.pairwise_cons] at h; have hne : a ≠ n := fun e => hn (by rw [e]; exact List.mem_cons_self); split
   · rename_i hlt; rw [List.pairwise_cons]; refine ⟨fun x hx => ?_, sC2 n h.2 (fun q => hn (List.mem_cons_of_mem _ q))⟩
     rcases (kB2 n l x).1 hx with rfl | hx
     · exact hlt
     · exact h.1 x hx
   · rename_i hge; rw [List.pairwise_cons, List.pairwise_cons]; refine ⟨fun x hx => ?_, h.1, h.2⟩
     rcases List.mem_cons.1 hx with rfl | hx
     · omega
     · have := h.1 x hx; omega
theorem oB7 (l : List Hy) (n : Int) : ∀ i, (atS l n i).Pairwise (· < ·) ∧ ∀ x, x ∈ atS l n i ↔ x ∈ lstS l n i
 | 0 => by simp [atS, lstS]
 | i + 1 => by
   obtain ⟨h1, h2⟩ := oB7 l n i; unfold atS lstS; split
   · rename_i e; simp only [e]; exact ⟨h1, h2⟩
   · rename_i v e; simp only [e]; split
     · rename_i ha; refine ⟨h1, fun x => ?_⟩; rw [h2, List.mem_append, List.mem_singleton]; constructor
       · exact .inl
       · rintro (h | rfl)
         · exact h
         · rw [List.any_eq_true] at ha; obtain ⟨y, hy, hd⟩ := ha; rw [decide_eq_true_eq] at hd; subst hd; exact (h2 _).1 hy
     · rename_i ha; have hn : v ∉ atS l n i := fun q => ha (List.any_eq_true.2 ⟨v, q, by simp⟩); refine ⟨sC2 v h1 hn, fun x => ?_⟩; rw [kB2, h2, List.mem_append, List.mem_singleton]; exact Or.comm
theorem jD4 (l : List Hy) (n : Int) (i : Nat) : compV (sortI (lstS l n i)) = atS l n i := by
 obtain ⟨h1, h2⟩ := xB9 (lstS l n i); obtain ⟨h3, h4⟩ := oB7 l n i; exact tB4 (fun x => (h2 x).trans (h4 x).symm) h1 h3
def con72 : Con := { ps := [.d true yBE, .d false yI], rs := [.o 3 yI], pre := fun (x : Be × Int × Unit) => x.1.2.length ≤ 1000000, out := fun (x : Be × Int × Unit) => (atS x.1.2 x.2.1 x.1.2.length, ()), nw := id }
theorem c72 : CtrOk Tryz.prog 72 con72.ctr :=
 aA0 eA0 (eC c105 has105 (eC c106 has106 eN)) rfl Tryz.func72 rfl con72 34359754167 (by kernel_rfl) (by decide) (by decide) rfl (by decide) rfl (by
  rintro ⟨⟨(u : Int), (l : List Hy)⟩, (n : Int), _⟩ hpre hwf X hT hG hk hK; have hl : l.length ≤ 1000000 := hpre
  (simp -implicitDefEqProofs (maxSteps := 4000000) only [go_sem, bP, con72, con105, con106, hT, hG, hk, hK, Tryz.results72] at hwf ⊢)
  clear hwf; refine fun _ => cA0 ⟨{ i : Nat // i ≤ l.length }, 1000, fun i => [(1, .one (.int .i64 n)), (2, .one (.loc 64 0)), (5, .one (.row 65)), (10, .one (.sl yHY l false)), (11, .one (.int .i64 l.length)), (12, .one (.int .i64 (i.1 : Int)))], fun i => [(64, .cells 34 [.int .i64 u, .sl yHY l false]), (65, .row 3 yI (lstS l n i.1))], fun i => l.length - i.1⟩ ⟨0, Nat.zero_le _⟩ ?_ ?_
  · simp only [go_sem]; simp only [lstS]
    try first | rfl | (and_intros <;> first | trivial | rfl | omega)
  · rintro ⟨i, (hi : i ≤ l.length)⟩; have hal := jB7 l n i
    (simp -implicitDefEqProofs (maxSteps := 4000000) only [go_sem, bP, con72, con105, con106, hT, hG, hk, hK, Tryz.results72])
    refine ⟨fun hlt => ?_, fun hge => ?_⟩
    · have hi' : i < l.length := by omega
      have ekk : (i : Int).toNat = i := Int.toNat_natCast i
      have hst : lstS l n (i + 1) = match lastO (l.getD i hy0).2 n with
       | none => lstS l n i
       | some v => lstS l n i ++ [v] := rfl
      obtain ⟨y, ey⟩ : ∃ y, l.getD i hy0 = y := ⟨_, rfl⟩; have ek : ∀ z, l.getD i z = y := fun z => by rw [← ey]; simp [hi']
      rw [ey] at hst; unfold lastO at hst; simp only [ekk, ek]; obtain ⟨yu, ⟨ys, yb⟩⟩ := y; dsimp only at hst ⊢; obtain ⟨A, hA⟩ : ∃ A, lstS l n i = A := ⟨_, rfl⟩; rw [hA] at hst hal; obtain ⟨w, hw⟩ : ∃ w, ys.getD n.toNat [] = w := ⟨_, rfl⟩; rw [hw] at hst; have el : ((w.length : Int) - 1).toNat = w.length - 1 := by omega
      simp only [hA, hw, el]; by_cases hc : n < 0 ∨ (ys.length : Int) ≤ n ∨ w.length = 0
      · rw [if_pos hc] at hst; dsimp only at hst
        (repeat' with_reducible first | refine And.intro ?_ ?_ | intro _) <;> try first | with_reducible (first | assumption | omega | contradiction) | decide
        all_goals first
         | omega
         | (refine dA0 ⟨i + 1, by omega⟩ ?_ (by dsimp only; omega)
            simp only [go_sem]; rw [hst]
            try first | rfl | (and_intros <;> first | trivial | rfl | omega)
            done)
      · rw [if_neg hc] at hst; dsimp only at hst; generalize w.getD (w.length - 1) 0 = v at *
        (repeat' with_reducible first | refine And.intro ?_ ?_ | intro _) <;> try first | with_reducible (first | assumption | omega | contradiction) | decide
        all_goals first
         | omega
         | (refine dA0 ⟨i + 1, by omega⟩ ?_ (by dsimp only; omega)
            simp only [go_sem]; rw [hst]
            try first | rfl | (and_intros <;> first | trivial | rfl | omega)
            done)
    · obtain rfl : i = l.length := by omega
      have hss := gC4 (lstS l n l.length); simp only [jD4]; exact ⟨by omega, fun _ => trivial⟩)
end Go.Proofs.YtabadacjbkhmkaaGreatDoor

set_option maxRecDepth 100000
set_option maxHeartbeats 8000000
namespace Go.Proofs.YtabadacjbkhmkaaGreatDoor
open Go.Ev
attribute [local go_sem] List.set_cons_succ List.set_cons_zero List.getD_cons_succ List.getD_cons_zero List.set_nil
def wntV (ns : List Nd) (n b : Int) (ts : List Int) (cl br : List Bool) : Bool := decide (refW ns n b ts cl br = 1)
theorem dC9 (ns : List Nd) (n b : Int) (ts : List Int) (cl br : List Bool) : wntV ns n b ts cl br = if (((ns.getD n.toNat nd0).2.1 = 6 ∧ isV cl b = false) ∨ b < 1) ∨ (ts.length : Int) < b then false else decide (extV ns br n (ts.getD (b - 1).toNat 0) = 1) := by
 unfold wntV refW; split
 · exact decide_eq_false (by decide)
 · split
   · rw [decide_eq_false (by decide), decide_eq_false (by omega)]
   · rfl
def con76 : Con := { ps := [.d true yLY, .d false yI, .d false yI, .d false (.sl yI), .d false (.sl .bool), .d false (.sl .bool)], rs := [.d false .bool], pre := fun (x : Ly × Int × Int × List Int × List Bool × List Bool × Unit) => GoodL x.1 ∧ (0 ≤ x.2.1 ∧ x.2.1 < x.1.1.length) ∧ x.2.2.2.1.length ≤ 1000000, out := fun (x : Ly × Int × Int × List Int × List Bool × List Bool × Unit) => (wntV x.1.1 x.2.1 x.2.2.1 x.2.2.2.1 x.2.2.2.2.1 x.2.2.2.2.2.1, ()), nw := id }
theorem c76 : CtrOk Tryz.prog 76 con76.ctr :=
 aA0 eA0 (eC c78 has78 (eC c107 has107 eN)) rfl Tryz.func76 rfl con76 34359742591 (by kernel_rfl) (by decide) (by decide) rfl (by decide) rfl (by
  rintro ⟨⟨(ns : List Nd), (ds : List Dv)⟩, (n : Int), (b : Int), (ts : List Int), (cl : List Bool), (br : List Bool), _⟩ hpre hwf X hT hG hk hK; obtain ⟨hg, ⟨h1, h2⟩, h3⟩ : GoodL (ns, ds) ∧ (0 ≤ n ∧ n < ns.length) ∧ ts.length ≤ 1000000 := hpre
  (simp -implicitDefEqProofs (maxSteps := 4000000) only [go_sem, bP, con76, con78, con107, hT, hG, hk, hK, Tryz.results76] at hwf ⊢); (try simp (disch := decide +kernel) only [drawn, true_and, and_true])
  clear hwf; have ek : ∀ z, ns.getD n.toNat z = ns.getD n.toNat nd0 := fun z => by simp [show n.toNat < ns.length by omega]
  have hw := dC9 ns n b ts cl br; simp only [ek]; generalize ns.getD n.toNat nd0 = y at *; generalize extV ns br n (ts.getD (b - 1).toNat 0) = e at *
  cases hs : isV cl b with
  | true =>
    simp only [hs, reduceCtorEq, and_false, or_false, false_or] at hw ⊢
    (repeat' with_reducible first | refine And.intro ?_ ?_ | intro _) <;> try first | with_reducible (first | assumption | omega | contradiction) | decide
    all_goals first
     | omega
     | exact hg
     | (rw [hw, if_pos (by omega)]; done)
     | (rw [hw, if_neg (by omega)]; done)
  | false =>
    simp only [hs, reduceCtorEq, and_true, or_false] at hw ⊢
    (repeat' with_reducible first | refine And.intro ?_ ?_ | intro _) <;> try first | with_reducible (first | assumption | omega | contradiction) | decide
    all_goals first
     | omega
     | exact hg
     | (rw [hw, if_pos (by omega)]; done)
     | (rw [hw, if_neg (by omega)]; done))
def con75 : Con := { ps := [.d false yI, .p 30 yLY, .p 3 yI, .p 22 (.sl yI), .p 23 (.sl .bool), .p 23 (.sl .bool)], rs := [.d false .bool], pre := fun (x : Int × Ly × Int × List Int × List Bool × List Bool × Unit) => GoodL x.2.1 ∧ (0 ≤ x.2.2.1 ∧ x.2.2.1 < x.2.1.1.length) ∧ x.2.2.2.1.length ≤ 1000000, out := fun (x : Int × Ly × Int × List Int × List Bool × List Bool × Unit) => (!wntV x.2.1.1 x.2.2.1 x.1 x.2.2.2.1 x.2.2.2.2.1 x.2.2.2.2.2.1, ()), nw := id }
theorem c75 : CtrOk Tryz.prog 75 con75.ctr :=
 aA0 eA0 (eC c76 has76 eN) rfl Tryz.func75 rfl con75 191 (by kernel_rfl) (by decide) (by decide) rfl (by decide) rfl (by
  rintro ⟨(b : Int), ⟨(ns : List Nd), (ds : List Dv)⟩, (n : Int), (ts : List Int), (cl : List Bool), (br : List Bool), _⟩ hpre hwf X hT hG hk hK; obtain ⟨hg, ⟨h1, h2⟩, h3⟩ : GoodL (ns, ds) ∧ (0 ≤ n ∧ n < ns.length) ∧ ts.length ≤ 1000000 := hpre
  (simp -implicitDefEqProofs (maxSteps := 4000000) only [go_sem, bP, con75, con76, hT, hG, hk, hK, Tryz.results75] at hwf ⊢)
  clear hwf
  (repeat' with_reducible first | refine And.intro ?_ ?_ | intro _) <;> try first | with_reducible (first | assumption | omega | contradiction) | decide
  all_goals first
   | exact hg)
def con77 : Con := { ps := [.d false yI, .p 23 (.sl .bool)], rs := [.d false .bool], pre := fun _ => True, out := fun (x : Int × List Bool × Unit) => (!isV x.2.1 x.1, ()), nw := id }
theorem c77 : CtrOk Tryz.prog 77 con77.ctr :=
 aA0 eA0 (eC c78 has78 eN) rfl Tryz.func77 rfl con77 11 (by kernel_rfl) (by decide) (by decide) rfl (by decide) rfl (by
  rintro ⟨(b : Int), (rs : List Bool), _⟩ hpre hwf X hT hG hk hK
  (simp -implicitDefEqProofs (maxSteps := 4000000) only [go_sem, bP, con77, con78, hT, hG, hk, hK, Tryz.results77] at hwf ⊢))
def conIiB : Con := { ps := [.d false (.sl yI), .cl 75 [.p 30 yLY, .p 3 yI, .p 22 (.sl yI), .p 23 (.sl .bool), .p 23 (.sl .bool)]], rs := [.d false yI], pre := fun (x : List Int × (Ly × Int × List Int × List Bool × List Bool × Unit) × Unit) => GoodL x.2.1.1 ∧ (0 ≤ x.2.1.2.1 ∧ x.2.1.2.1 < x.2.1.1.1.length) ∧ x.2.1.2.2.1.length ≤ 1000000, out := fun (x : List Int × (Ly × Int × List Int × List Bool × List Bool × Unit) × Unit) => (idxV (fun y : Int => !wntV x.2.1.1.1 x.2.1.2.1 y x.2.1.2.2.1 x.2.1.2.2.2.1 x.2.1.2.2.2.2.1) x.1, ()), nw := id }
theorem cIiB : CtrOk Tryz.prog 104 conIiB.ctr :=
 aA0 eA0 (eC c75 has75 eN) rfl Tryz.func104 rfl conIiB 66483 (by kernel_rfl) (by decide) (by decide) rfl (by decide) rfl (by
  rintro ⟨(l : List Int), ⟨⟨(ns : List Nd), (ds : List Dv)⟩, (n : Int), (ts : List Int), (cl : List Bool), (br : List Bool), _⟩, _⟩ hpre hwf X hT hG hk hK; obtain ⟨hg, ⟨h1, h2⟩, h3⟩ : GoodL (ns, ds) ∧ (0 ≤ n ∧ n < ns.length) ∧ ts.length ≤ 1000000 := hpre
  (simp -implicitDefEqProofs (maxSteps := 4000000) only [go_sem, bP, conIiB, con75, hT, hG, hk, hK, Tryz.results104] at hwf ⊢)
  clear hwf; refine fun _ => cA0 ⟨{ i : Nat // i ≤ l.length ∧ ∀ k (h : k < l.length), k < i → (!wntV ns n l[k] ts cl br) = false }, 1000, fun q => [(0, .one (.sl yI l false)), (1, .one (.fn 75 [.loc 12 0, .loc 13 0, .loc 14 0, .loc 15 0, .loc 16 0])), (7, .one (.int .i64 l.length)), (8, .one (.int .i64 q.1))], fun _ => [(12, .cells 30 [.sl yNO ns false, .sl yPL ds false]), (13, .cells 3 [.int .i64 n]), (14, .cells 22 [.sl yI ts false]), (15, .cells 23 [.sl .bool cl false]), (16, .cells 23 [.sl .bool br false])], fun q => l.length - q.1⟩ ⟨0, Nat.zero_le _, fun k h hk => by omega⟩ ?_ ?_
  · simp only [go_sem]; rfl
  · rintro ⟨i, (hi : i ≤ l.length), hz⟩
    (simp -implicitDefEqProofs (maxSteps := 4000000) only [go_sem, bP, conIiB, con75, hT, hG, hk, hK, Tryz.results104])
    refine ⟨fun hlt => ?_, fun hge => ?_⟩
    · have hi' : i < l.length := by omega
      have ek : ∀ z, l.getD (i : Int).toNat z = l[i] := fun z => by simp [hi']
      have hat := fun h => vA1 (p := fun y : Int => !wntV ns n y ts cl br) hi' h (fun k hk => hz k (by omega) hk); have hnx : (!wntV ns n l[i] ts cl br) = false → ∀ k (h : k < l.length), k < i + 1 → (!wntV ns n l[k] ts cl br) = false := fun h k hk1 hk => by
       by_cases e : k = i
       · subst e; exact h
       · exact hz k hk1 (by omega)
      simp only [ek]; generalize l[i] = x at *
      (repeat' with_reducible first | refine And.intro ?_ ?_ | intro _) <;> try first | with_reducible (first | assumption | omega | contradiction) | decide
      all_goals first
       | omega
       | exact hg
       | (have h : wntV ns n x ts cl br = false := by assumption
          exact (hat (by rw [h]; rfl)).symm)
       | (have h : wntV ns n x ts cl br = true := by assumption
          refine dA0 ⟨i + 1, by omega, hnx (by rw [h]; rfl)⟩ ?_ (by dsimp only; omega); simp only [go_sem]
          try rfl
          done)
    · exact (mA1 (p := fun y : Int => !wntV ns n y ts cl br) (fun k hk => hz k hk (by omega))).symm)
def conIiC : Con := { ps := [.d false (.sl yI), .cl 77 [.p 23 (.sl .bool)]], rs := [.d false yI], pre := fun _ => True, out := fun (x : List Int × (List Bool × Unit) × Unit) => (idxV (fun y : Int => !isV x.2.1.1 y) x.1, ()), nw := id }
theorem cIiC : CtrOk Tryz.prog 104 conIiC.ctr :=
 aA0 eA0 (eC c77 has77 eN) rfl Tryz.func104 rfl conIiC 66483 (by kernel_rfl) (by decide) (by decide) rfl (by decide) rfl (by
  rintro ⟨(l : List Int), ⟨(rs : List Bool), _⟩, _⟩ hpre hwf X hT hG hk hK
  (simp -implicitDefEqProofs (maxSteps := 4000000) only [go_sem, bP, conIiC, con77, hT, hG, hk, hK, Tryz.results104] at hwf ⊢)
  clear hwf; refine fun _ => cA0 ⟨{ i : Nat // i ≤ l.length ∧ ∀ k (h : k < l.length), k < i → (!isV rs l[k]) = false }, 1000, fun q => [(0, .one (.sl yI l false)), (1, .one (.fn 77 [.loc 12 0])), (7, .one (.int .i64 l.length)), (8, .one (.int .i64 q.1))], fun _ => [(12, .cells 23 [.sl .bool rs false])], fun q => l.length - q.1⟩ ⟨0, Nat.zero_le _, fun k h hk => by omega⟩ ?_ ?_
  · simp only [go_sem]; rfl
  · rintro ⟨i, (hi : i ≤ l.length), hz⟩
    (simp -implicitDefEqProofs (maxSteps := 4000000) only [go_sem, bP, conIiC, con77, hT, hG, hk, hK, Tryz.results104])
    refine ⟨fun hlt => ?_, fun hge => ?_⟩
    · have hi' : i < l.length := by omega
      have ek : ∀ z, l.getD (i : Int).toNat z = l[i] := fun z => by simp [hi']
      have hat := fun h => vA1 (p := fun y : Int => !isV rs y) hi' h (fun k hk => hz k (by omega) hk); have hnx : (!isV rs l[i]) = false → ∀ k (h : k < l.length), k < i + 1 → (!isV rs l[k]) = false := fun h k hk1 hk => by
       by_cases e : k = i
       · subst e; exact h
       · exact hz k hk1 (by omega)
      simp only [ek]; generalize l[i] = x at *
      (repeat' with_reducible first | refine And.intro ?_ ?_ | intro _) <;> try first | with_reducible (first | assumption | omega | contradiction) | decide
      all_goals first
       | omega
       | (have h : isV rs x = false := by assumption
          exact (hat (by rw [h]; rfl)).symm)
       | (have h : isV rs x = true := by assumption
          refine dA0 ⟨i + 1, by omega, hnx (by rw [h]; rfl)⟩ ?_ (by dsimp only; omega); simp only [go_sem]
          try rfl
          done)
    · exact (mA1 (p := fun y : Int => !isV rs y) (fun k hk => hz k hk (by omega))).symm)
def conCoB : Con := { ps := [.d false (.sl yI), .cl 75 [.p 30 yLY, .p 3 yI, .p 22 (.sl yI), .p 23 (.sl .bool), .p 23 (.sl .bool)]], rs := [.d false .bool], pre := fun (x : List Int × (Ly × Int × List Int × List Bool × List Bool × Unit) × Unit) => GoodL x.2.1.1 ∧ (0 ≤ x.2.1.2.1 ∧ x.2.1.2.1 < x.2.1.1.1.length) ∧ x.2.1.2.2.1.length ≤ 1000000, out := fun (x : List Int × (Ly × Int × List Int × List Bool × List Bool × Unit) × Unit) => (x.1.any (fun y : Int => !wntV x.2.1.1.1 x.2.1.2.1 y x.2.1.2.2.1 x.2.1.2.2.2.1 x.2.1.2.2.2.2.1), ()), nw := id }
theorem cCoB : CtrOk Tryz.prog 74 conCoB.ctr :=
 aA0 eA0 (eC cIiB has104 eN) rfl Tryz.func74 rfl conCoB 19 (by kernel_rfl) (by decide) (by decide) rfl (by decide) rfl (by
  rintro ⟨(l : List Int), ⟨⟨(ns : List Nd), (ds : List Dv)⟩, (n : Int), (ts : List Int), (cl : List Bool), (br : List Bool), _⟩, _⟩ hpre hwf X hT hG hk hK; obtain ⟨hg, ⟨h1, h2⟩, h3⟩ : GoodL (ns, ds) ∧ (0 ≤ n ∧ n < ns.length) ∧ ts.length ≤ 1000000 := hpre; have hge := hA8 (fun y : Int => !wntV ns n y ts cl br) l
  (simp -implicitDefEqProofs (maxSteps := 4000000) only [go_sem, bP, conCoB, conIiB, hT, hG, hk, hK, Tryz.results74] at hwf ⊢)
  clear hwf; refine ⟨⟨hg, ⟨h1, h2⟩, h3⟩, fun _ => ?_⟩; rw [← hge])
def conCoC : Con := { ps := [.d false (.sl yI), .cl 77 [.p 23 (.sl .bool)]], rs := [.d false .bool], pre := fun _ => True, out := fun (x : List Int × (List Bool × Unit) × Unit) => (x.1.any (fun y : Int => !isV x.2.1.1 y), ()), nw := id }
theorem cCoC : CtrOk Tryz.prog 74 conCoC.ctr :=
 aA0 eA0 (eC cIiC has104 eN) rfl Tryz.func74 rfl conCoC 19 (by kernel_rfl) (by decide) (by decide) rfl (by decide) rfl (by
  rintro ⟨(l : List Int), ⟨(rs : List Bool), _⟩, _⟩ hpre hwf X hT hG hk hK; have hge := hA8 (fun y : Int => !isV rs y) l
  (simp -implicitDefEqProofs (maxSteps := 4000000) only [go_sem, bP, conCoC, conIiC, hT, hG, hk, hK, Tryz.results74] at hwf ⊢)
  clear hwf; exact fun _ => hge)
def con74 : RawT := ⟨orFn 75 conCoB.ctr conCoC.ctr⟩
theorem c74 : CtrOk Tryz.prog 74 con74.ctr := jD0 cCoB cCoC
attribute [local go_sem] conCoB conCoC
def decC (kd : Int) (cs : List Int) (w o : Int → Bool) : Int :=
 if exN kd = 2 then (if 0 < cs.length ∧ cs.any (fun b => !w b) = false then 1 else 0)
 else if kd = 3 ∧ cs.any (fun b => !o b) = true then -1 else 0
def cmdV (ns : List Nd) (l : List Hy) (n : Int) (ts : List Int) (cl rs br : List Bool) : Int :=
 decC (ns.getD n.toNat nd0).2.1 (othF (atS l n l.length) 0) (fun b => wntV ns n b ts cl br) (isV rs)
def con40 : Con := { ps := [.d true yLY, .d true yBE, .d false yI, .d false (.sl yI), .d false (.sl .bool), .d false (.sl .bool), .d false (.sl .bool)], rs := [.d false yI], pre := fun (x : Ly × Be × Int × List Int × List Bool × List Bool × List Bool × Unit) => GoodL x.1 ∧ x.2.1.2.length ≤ 1000000 ∧ (0 ≤ x.2.2.1 ∧ x.2.2.1 < x.1.1.length) ∧ x.2.2.2.1.length ≤ 1000000, out := fun (x : Ly × Be × Int × List Int × List Bool × List Bool × List Bool × Unit) => (cmdV x.1.1 x.2.1.2 x.2.2.1 x.2.2.2.1 x.2.2.2.2.1 x.2.2.2.2.2.1 x.2.2.2.2.2.2.1, ()), nw := id }
theorem c40 : CtrOk Tryz.prog 40 con40.ctr :=
 aA0 eA0 (eC c71 has71 (eC c72 has72 (eC c73 has73 (eC c74 has74 (eC c75 has75 (eC c77 has77 eN)))))) rfl Tryz.func40 rfl con40 19793725947903 (by kernel_rfl) (by decide) (by decide) rfl (by decide) rfl (by
  rintro ⟨⟨(ns : List Nd), (ds : List Dv)⟩, ⟨(u : Int), (l : List Hy)⟩, (n : Int), (ts : List Int), (cl : List Bool), (rs : List Bool), (br : List Bool), _⟩ hpre hwf X hT hG hk hK; obtain ⟨hg, hl, ⟨h1, h2⟩, h3⟩ : GoodL (ns, ds) ∧ l.length ≤ 1000000 ∧ (0 ≤ n ∧ n < ns.length) ∧ ts.length ≤ 1000000 := hpre
  (simp -implicitDefEqProofs (maxSteps := 4000000) only [go_sem, bP, con40, con71, con72, con73, con74, con75, con77, hT, hG, hk, hK, Tryz.results40] at hwf ⊢)
  clear hwf; have hal := iB1 l n l.length; have hol := jA7 (atS l n l.length) 0; have ek : ∀ z, ns.getD n.toNat z = ns.getD n.toNat nd0 := fun z => by simp [show n.toNat < ns.length by omega]
  have hcv : cmdV ns l n ts cl rs br = decC (ns.getD n.toNat nd0).2.1 (othF (atS l n l.length) 0) (fun b => wntV ns n b ts cl br) (isV rs) := rfl; simp only [ek]; generalize othF (atS l n l.length) 0 = A at *; generalize (ns.getD n.toNat nd0) = y at *; generalize hCv : cmdV ns l n ts cl rs br = v at *; unfold decC at hcv; have e2 : y.2.1 = 4 ∨ y.2.1 = 5 ∨ y.2.1 = 6 → exN y.2.1 = 2 := fun h => by unfold exN; rw [if_pos h]
  have e1 : ¬ (y.2.1 = 4 ∨ y.2.1 = 5 ∨ y.2.1 = 6) → ¬ exN y.2.1 = 2 := fun h => by
   unfold exN; rw [if_neg h]; split <;> decide
  have c1 : (y.2.1 = 4 ∨ y.2.1 = 5 ∨ y.2.1 = 6) → 0 < A.length → (A.any fun y => !wntV ns n y ts cl br) = false → v = 1 := fun h h4 h5 => by
   rw [hcv, if_pos (e2 h), if_pos ⟨h4, h5⟩]
  have c2 : (y.2.1 = 4 ∨ y.2.1 = 5 ∨ y.2.1 = 6) → (¬ (0 < A.length) ∨ (A.any fun y => !wntV ns n y ts cl br) = true) → v = 0 := fun h h4 => by
   rw [hcv, if_pos (e2 h), if_neg (fun q => h4.elim (fun e => e q.1) (fun e => by rw [q.2] at e; cases e))]
  have c3 : y.2.1 = 3 → (A.any fun y => !isV rs y) = true → v = -1 := fun h h4 => by
   rw [hcv, if_neg (e1 (by omega)), if_pos ⟨h, h4⟩]
  have c4 : y.2.1 = 3 → (A.any fun y => !isV rs y) = false → v = 0 := fun h h4 => by
   rw [hcv, if_neg (e1 (by omega)), if_neg (fun q => by rw [h4] at q; cases q.2)]
  have c5 : ¬ (y.2.1 = 4 ∨ y.2.1 = 5 ∨ y.2.1 = 6) → ¬ y.2.1 = 3 → v = 0 := fun h h4 => by
   rw [hcv, if_neg (e1 h), if_neg (fun q => h4 q.1)]
  (repeat' with_reducible first | refine And.intro ?_ ?_ | intro _) <;> try first | with_reducible (first | assumption | omega | contradiction) | decide
  all_goals first
   | omega
   | exact hg
   | (have h : (A.length : Int) > 0 ∧ (A.any fun y => !wntV ns n y ts cl br) = false := by assumption
      exact (c1 (by omega) (by omega) h.2).symm)
   | (have h : ¬ ((A.length : Int) > 0) ∨ (A.any fun y => !wntV ns n y ts cl br) = true := by assumption
      exact (c2 (by omega) (h.imp (fun q => by omega) id)).symm)
   | exact (c3 (by assumption) (by assumption)).symm
   | exact (c4 (by assumption) (by assumption)).symm
   | exact (c5 (by omega) (by omega)).symm)
def decL (ns : List Nd) (l : List Hy) (ts : List Int) (cl rs br : List Bool) : Nat → List Int
 | 0 => []
 | n + 1 => decL ns l ts cl rs br n ++ [cmdV ns l n ts cl rs br]
theorem uB0 (ns : List Nd) (l : List Hy) (ts : List Int) (cl rs br : List Bool) : ∀ n, (decL ns l ts cl rs br n).length = n
 | 0 => rfl
 | n + 1 => by simp [decL, uB0 ns l ts cl rs br n]
def con14 : Con := { ps := [.d true yLY, .d true yBE, .d false (.sl yI), .d false (.sl .bool), .d false (.sl .bool), .d false (.sl .bool)], rs := [.d false (.sl yI)], pre := fun (x : Ly × Be × List Int × List Bool × List Bool × List Bool × Unit) => GoodL x.1 ∧ x.2.1.2.length ≤ 1000000 ∧ x.2.2.1.length ≤ 1000000, out := fun (x : Ly × Be × List Int × List Bool × List Bool × List Bool × Unit) => (decL x.1.1 x.2.1.2 x.2.2.1 x.2.2.2.1 x.2.2.2.2.1 x.2.2.2.2.2.1 x.1.1.length, ()), nw := id }
theorem c14 : CtrOk Tryz.prog 14 con14.ctr :=
 aA0 eA0 (eC c39 has39 (eC c40 has40 eN)) rfl Tryz.func14 rfl con14 7500031 (by kernel_rfl) (by decide) (by decide) rfl (by decide) rfl (by
  rintro ⟨⟨(ns : List Nd), (ds : List Dv)⟩, ⟨(u : Int), (l : List Hy)⟩, (ts : List Int), (cl : List Bool), (rs : List Bool), (br : List Bool), _⟩ hpre hwf X hT hG hk hK; obtain ⟨hg, hl, h3⟩ : GoodL (ns, ds) ∧ l.length ≤ 1000000 ∧ ts.length ≤ 1000000 := hpre; have hn24 : ns.length ≤ 24 := hg.n24
  (simp -implicitDefEqProofs (maxSteps := 4000000) only [go_sem, bP, con14, con39, con40, hT, hG, hk, hK, Tryz.results14] at hwf ⊢)
  clear hwf; refine ⟨hg, fun _ => ⟨False.elim, fun _ => ?_⟩⟩; refine cA0 ⟨{ i : Nat // i ≤ ns.length }, 1000, fun i => [(2, .one (.sl yI ts false)), (3, .one (.sl .bool cl false)), (4, .one (.sl .bool rs false)), (5, .one (.sl .bool br false)), (6, .one (.loc 64 0)), (7, .one (.loc 65 0)), (13, .one (.row 66)), (20, .one (.int .i64 ns.length)), (21, .one (.int .i64 (i.1 : Int)))], fun i => [(64, .cells 30 [.sl yNO ns false, .sl yPL ds false]), (65, .cells 34 [.int .i64 u, .sl yHY l false]), (66, .row 3 yI (decL ns l ts cl rs br i.1))], fun i => ns.length - i.1⟩ ⟨0, Nat.zero_le _⟩ ?_ ?_
  · simp only [go_sem]; simp only [decL]
    try first | rfl | (and_intros <;> first | trivial | rfl | omega)
  · rintro ⟨i, (hi : i ≤ ns.length)⟩; have hll := uB0 ns l ts cl rs br i
    (simp -implicitDefEqProofs (maxSteps := 4000000) only [go_sem, bP, con14, con39, con40, hT, hG, hk, hK, Tryz.results14])
    refine ⟨fun hlt => ?_, fun hge => ?_⟩
    · (repeat' with_reducible first | refine And.intro ?_ ?_ | intro _) <;> try first | with_reducible (first | assumption | omega | contradiction) | decide
      all_goals first
       | omega
       | exact hg
       | (refine dA0 ⟨i + 1, by omega⟩ ?_ (by dsimp only; omega)
          simp only [go_sem]; simp only [decL]
          try first | rfl | (and_intros <;> first | trivial | rfl | omega)
          done)
    · rw [show i = ns.length by omega])
end Go.Proofs.YtabadacjbkhmkaaGreatDoor
