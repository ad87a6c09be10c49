/- Iterators over slices: what a seat shows of their run; what they are gone over as. -/
import Derived.Test.YtjeinbfnbcempaaEvSimp
import Derived.RangeFuncBox
import Derived.Shelf.Abstract
import Derived.RangeFuncLeaves
import Derived.WalkKit
import Derived.OwnWalkIn
import Derived.TacticsInMore
import Derived.LoopNIn
import Derived.LoopIn
import Derived.Test.YtjeinbfnbcempaaProg
import Derived.Test.YtjeinbfnbcempaaEvFun4ToFun5
import Derived.Shelf.SortM.Plain
import Derived.Shelf.SortM.SortNone
import Derived.Shelf.SlSortCmp.WholeK
import Derived.Shelf.SlSortCmp.NoneTotal
import Derived.Test.YtjeinbfnbcempaaFwN
set_option linter.unusedSimpArgs false
set_option linter.unusedVariables false
namespace Go.Ev
open Go.RowKit

/-- The values of a round: elements' cells, the length, the round. -/
abbrev EncSl := Nat → (Nat → List Value) → Nat → Array Value
def encValues (ag : Bool) : EncSl := fun _ cs j => #[mkV ag (cs j)]
def encAll (ag : Bool) : EncSl := fun _ cs j => #[.int .i64 (j : Int), mkV ag (cs j)]
def encBack (ag : Bool) : EncSl := fun len cs j => #[.int .i64 ((len : Int) - 1 - j), mkV ag (cs (len - 1 - j))]

def RunsSl (P : Program) (f : Nat) (n : Nat) (y : EncSl) : Prop :=
  ∀ (l Bs : Nat) (a : Option Addr) (len cap : Nat) (cs : Nat → List Value) (bs : List Nat) (J Jx : List Nat → World → Prop), len ≤ maxLen → (∀ k, (cs k).length = n) → Bs ∈ bs → (0 < len → ∃ b off, a = some ⟨b, off, none⟩ ∧ b ∈ bs) →
    (∀ (pre : List Nat) (j : Nat) (W : World), Pfx (fun q => q = List.range len) (pre ++ [j]) → J pre W → YieldAt Fence.wide 1 P l (y len cs j) W fun e W' =>
      (e = .returned (.bool true) ∧ J (pre ++ [j]) W' ∧ KpB bs W W' ∧ KeepN W W') ∨ (e = .returned (.bool false) ∧ Jx (pre ++ [j]) W')) →
    ∀ W : World, W.cell? ⟨Bs, 0, none⟩ = some (.slice a len cap) → (∀ b off, a = some ⟨b, off, none⟩ → ∀ k, k < len → ∀ i u, (cs k)[i]? = some u → W.cell? ⟨b, off + k * n + i, none⟩ = some u) → J [] W →
    CallsIn Fence.wide 2 P f #[.func (.yield l) #[] #[], .pointer (some ⟨Bs, 0, none⟩)] W fun e W' => (∃ v, e = .returned v) ∧
      ((∃ ys, ys = List.range len ∧ J ys W') ∨ (∃ pre, Pfx (fun q => q = List.range len) pre ∧ Jx pre W'))

theorem pfx_range {k len : Nat} (h : k < len) : Pfx (fun q => q = List.range len) (List.range k ++ [k]) := by
  refine ⟨(List.range len).drop (k + 1), ?_⟩
  rw [← List.range_succ]
  have : List.range (k + 1) = (List.range len).take (k + 1) := by rw [List.take_range]; congr 1; omega
  rw [this, List.take_append_drop]
theorem pfx_at {len j : Nat} {p : List Nat} (h : Pfx (fun q => q = List.range len) (p ++ [j])) : p = List.range j ∧ j < len := by
  obtain ⟨q, h⟩ := h
  have hl := congrArg List.length h
  simp only [List.length_append, List.length_cons, List.length_nil, List.length_range] at hl
  have e1 : p.length < len := by omega
  have hj : (List.range len)[p.length]? = some j := by rw [← h]; simp
  rw [List.getElem?_range e1] at hj
  cases hj
  refine ⟨?_, e1⟩
  have e2 := congrArg (List.take p.length) h
  simp only [List.append_assoc, List.take_left, List.take_range] at e2
  rw [Nat.min_eq_left (by omega)] at e2
  exact e2
theorem wrap64_sub1 {len : Nat} (h : len ≤ maxLen) : wrap64 ((len : Int) - 1) = (len : Int) - 1 := by
  unfold maxLen at h; unfold wrap64; omega
theorem wrap64_back {len k : Nat} (h : len ≤ maxLen) (hk : k ≤ len) : Value.int .i64 (wrap64 ((len : Int) - 1 - k - 1)) = .int .i64 ((len : Int) - 1 - ((k + 1 : Nat) : Int)) := by
  unfold maxLen at h; congr 1; unfold wrap64; omega
theorem wrap64_fwd {len k : Nat} (h : len ≤ maxLen) (hk : k < len) : Value.int .i64 (wrap64 ((k : Int) + 1)) = .int .i64 (((k + 1 : Nat) : Int)) := by
  unfold maxLen at h; congr 1; unfold wrap64; omega
theorem list_1 {α : Type} {l : List α} (h : l.length = 1) : ∃ c0, l = [c0] := by
  match l, h with | [c0], _ => exact ⟨c0, rfl⟩

/-- How a slice is gone over. -/
inductive SlK where
  | back | vals | all
def SlK.enc (ag : Bool) : SlK → EncSl
  | .back => encBack ag
  | .vals => encValues ag
  | .all => encAll ag
def SlK.ar : SlK → Nat
  | .vals => 1
  | _ => 2
/-- The element that a round is handed. -/
def SlK.ix (len j : Nat) : SlK → Nat
  | .back => len - 1 - j
  | _ => j
def SlK.y (t : Ty) (ag : Bool) (xs : List t.den) (j : Nat) : SlK → List AV
  | .back => [.one (.int .i64 ((xs.length : Int) - 1 - j)), avOf ag (expl t (xs.getD (xs.length - 1 - j) t.dflt))]
  | .vals => [avOf ag (expl t (xs.getD j t.dflt))]
  | .all => [.one (.int .i64 (j : Int)), avOf ag (expl t (xs.getD j t.dflt))]
def slG (K : SlK) (t : Ty) (ag : Bool) (u : Heap) (xs : List t.den) : ItE :=
  ⟨True, fun j => K.y t ag xs j, K.ar, u, fun q => q = List.range xs.length, fun j => j < xs.length ∧ Wf t (xs.getD (K.ix xs.length j) t.dflt)⟩
def itSlO (K : SlK) (t : Ty) (ag : Bool) (u : Heap) : Option (List t.den) → ItE
  | some xs => slG K t ag u xs
  | none => ItE.bad
/-- A closure over the box of a slice. -/
def itSl (K : SlK) (e : TypeId) (t : Ty) (ag : Bool) : ItC := fun caps m => match caps with
  | [.loc id 0] => (match m id with
    | .cells e' [c] => if e' = e then itSlO K t ag ((rowsOf [c]).map (settle m) ++ [(id, .dead)]) (view m t c) else ItE.bad
    | _ => ItE.bad)
  | _ => ItE.bad

attribute [go_sem] slG SlK.y SlK.ar SlK.ix
theorem repCs_one {x : Rx} {c : C1} {vs : List Value} (h : repCs x [c] vs) : ∃ v, vs = [v] ∧ repC x c v := by
  obtain ⟨v, r, e, h1, h2⟩ := repCs_cons.1 h
  rw [repCs_nil.1 h2] at e
  exact ⟨v, e, h1⟩
theorem repAs_one {x : Rx} {a : AV} {v : Value} (h : repA x a v) : repAs x [a] [v] := by
  unfold repAs; exact ⟨v, [], rfl, h, by unfold repAs; rfl⟩
theorem repAs_two {x : Rx} {a b : AV} {v u : Value} (h : repA x a v) (k : repA x b u) : repAs x [a, b] [v, u] := by
  unfold repAs; exact ⟨v, [u], rfl, h, repAs_one k⟩
theorem roAll_cut {α : Type} {r : α → List Value → Prop} {n : Nat} (hn : ∀ x c, r x c → c.length = n) {xs : List α} {vs : List Value} (h : roAll r xs vs) {i : Nat} (hi : i < xs.length) : r xs[i] ((vs.drop (i * n)).take n) := by
  obtain ⟨pre, c, post, e, hl, hc, _, _⟩ := roAll_at hn h hi
  rw [e, ← hl, List.drop_left, ← hn _ _ hc, List.take_left]
  exact hc

theorem itSl_ok {P : Program} {f : FuncId} {K : SlK} {e : TypeId} {t : Ty} {ag : Bool} (hrun : RunsSl P f t.n (K.enc ag)) (hn : 0 < t.n) (h1 : ag = false → t.n = 1) : ItOk P f (itSl K e t ag) := by
  intro cx σ N m w caps lb h hcaps hpre
  unfold itSl at hpre ⊢
  split at hpre
  case h_2 => exact hpre.elim
  rename_i id
  split at hpre
  case h_2 => exact hpre.elim
  rename_i e' c hmid
  split at hpre
  case isFalse => exact hpre.elim
  rename_i he
  subst he
  rw [if_pos rfl]
  cases hv : view m t c with
  | none => rw [hv] at hpre; exact hpre.elim
  | some xs =>
    simp only [itSlO, slG]
    obtain ⟨v, rfl, hr⟩ := repCs_one hcaps
    unfold repC at hr
    obtain ⟨hNid, b0, hσ, rfl⟩ := hr
    have hσ : σ id = .pointer (some ⟨b0, 0, none⟩) := hσ
    have hb := h.blk id
    rw [hmid] at hb
    obtain ⟨b1, vs, e1, e2, e3, _⟩ := hb
    have hb01 : b1 = b0 := by have e1 : σ id = .pointer (some ⟨b1, 0, none⟩) := e1; rw [hσ] at e1; cases e1; rfl
    subst hb01
    obtain ⟨u, rfl, hu⟩ := repCs_one e3
    have hcell0 : w.cell? ⟨b1, 0, none⟩ = some u := by
      have e2 : w.heap[b1]? = some (.cells #[u] e' (0, 0)) := e2
      simp [World.cell?, e2]
    -- the box is given away
    obtain ⟨hM1, k1⟩ := h.settles (rowsOf [c])
    obtain ⟨hM2, k2⟩ := hM1.drop id
    have hupd : updM (updM m ((rowsOf [c]).map (settle m))) [(id, .dead)] = updM m ((rowsOf [c]).map (settle m) ++ [(id, .dead)]) := (updM_append ..).symm
    rw [hupd] at hM2 k2
    have hO1 : ∀ b, Owned cx σ (updM m ((rowsOf [c]).map (settle m) ++ [(id, .dead)])) b → Owned cx σ (updM m ((rowsOf [c]).map (settle m))) b := by
      rintro b (hf | ⟨i, h1, h2⟩)
      · exact .inl hf
      · rw [← hupd] at h1
        by_cases ei : id = i
        · subst ei; simp [updM, own] at h1
        · simp only [updM, if_neg ei] at h1
          exact .inr ⟨i, h1, h2⟩
    have hro : ro w (Owned cx σ (updM m ((rowsOf [c]).map (settle m) ++ [(id, .dead)]))) (.sl t) xs [u] :=
      data_in h (rowsOf [c]) ⟨w, Owned cx σ (updM m ((rowsOf [c]).map (settle m) ++ [(id, .dead)])), σ, N⟩ rfl hO1 (t := .sl t) (cs := [c]) (vs := [u]) (by simpa [impl, implL] using hv) (fun i hi => hi) e3
    have hbox : ¬ Owned cx σ (updM m ((rowsOf [c]).map (settle m) ++ [(id, .dead)])) b1 := by
      have hbid : hb (σ id) b1 := by rw [hσ]; exact .inl rfl
      rintro (hf | ⟨i, h3, h4⟩)
      · exact h.notF id b1 (by rw [hmid]; rfl) hbid hf
      · rw [← hupd] at h3
        by_cases ei : id = i
        · subst ei; simp [updM, own] at h3
        · simp only [updM, if_neg ei] at h3
          have h5 : own (m i) = true := by
            rw [updM_settle m _ m i (fun i _ => .inl rfl)] at h3
            split at h3
            · exact settle_not_own m i h3
            · exact h3
          exact ei (h.inj id i b1 (by rw [hmid]; rfl) h5 hbid h4)
    have hwf := ro_wf (.sl t) xs [u] hro
    obtain ⟨a, len, cap, hu2, hlen, hlc, hcm, hdat⟩ := hro
    cases hu2
    subst hlen
    have hmx : xs.length ≤ maxLen := Nat.le_trans hlc hcm
    -- the elements' cells
    obtain ⟨flat, hflat⟩ : ∃ flat : List Value, 0 < xs.length → ∃ b o, a = some ⟨b, o, none⟩ ∧ roAll (ro w (Owned cx σ (updM m ((rowsOf [c]).map (settle m) ++ [(id, .dead)]))) t) xs flat ∧ CellsAt w (Owned cx σ (updM m ((rowsOf [c]).map (settle m) ++ [(id, .dead)]))) b o flat := by
      rcases hdat with h0 | ⟨b, o, flat, q1, q2, q3⟩
      · exact ⟨[], fun hp => by omega⟩
      · exact ⟨flat, fun _ => ⟨b, o, q1, q2, q3⟩⟩
    let cs : Nat → List Value := fun k => if k < xs.length then (flat.drop (k * t.n)).take t.n else List.replicate t.n undef
    have hel : ∀ k (hk : k < xs.length), ro w (Owned cx σ (updM m ((rowsOf [c]).map (settle m) ++ [(id, .dead)]))) t xs[k] (cs k) := fun k hk => by
      obtain ⟨b, o, q1, q2, q3⟩ := hflat (by omega)
      simp only [cs, if_pos hk]
      exact roAll_cut (fun x c hx => ro_len t x c hx) q2 hk
    have hcs : ∀ k, (cs k).length = t.n := fun k => by
      by_cases hk : k < xs.length
      · exact ro_len t _ _ (hel k hk)
      · simp only [cs, if_neg hk, List.length_replicate]
    have hget : ∀ k (hk : k < xs.length), xs.getD k t.dflt = xs[k] := fun k hk => by simp [hk]
    have hixl : ∀ j, j < xs.length → K.ix xs.length j < xs.length := fun j hj => by cases K <;> simp only [SlK.ix] <;> omega
    refine ⟨K.enc ag xs.length cs, b1 :: (match a with | some ad => if 0 < xs.length then [ad.block] else [] | none => []), hM2, ⟨k1.k.trans k2.k (Nat.le_refl _), fun id hid => rfl, fun id hid => hid⟩, fun p j hp => ?_, fun b hb => ?_, ?_⟩
    · obtain ⟨_, hj⟩ := pfx_at hp
      have hix := hixl j hj
      refine ⟨⟨hj, ?_⟩, by cases K <;> rfl, fun y hy => ?_⟩
      · rw [hget _ hix]
        exact ro_wf t _ _ (hel _ hix)
      · have hE : ∀ k (hk : k < xs.length), repA y (avOf ag (expl t (xs.getD k t.dflt))) (mkV ag (cs k)) := fun k hk => by
          rw [hget k hk]
          exact avOf_mkV (ro_keep hy t _ _ (hel k hk)) h1
        have hI : ∀ z : Int, InR .i64 z → repA y (.one (.int .i64 z)) (.int .i64 z) := fun z hz => repA_int hz
        unfold maxLen at hmx
        cases K with
        | back => exact repAs_two (hI _ (by unfold InR IntKind.min IntKind.max; simp only [IntKind.signed, IntKind.bits]; constructor <;> simp <;> omega)) (hE _ hix)
        | vals => exact repAs_one (hE _ hix)
        | all => exact repAs_two (hI _ (by unfold InR IntKind.min IntKind.max; simp only [IntKind.signed, IntKind.bits]; constructor <;> simp <;> omega)) (hE _ hix)
    · rcases List.mem_cons.1 hb with rfl | hb
      · exact ⟨(Array.getElem?_eq_some_iff.1 e2).1, hbox⟩
      · split at hb
        · split at hb
          · rename_i ad hp
            obtain ⟨b', o', q1, q2, q3⟩ := hflat hp
            cases q1
            simp only [List.mem_singleton] at hb
            subst hb
            have hl := hcs 0
            have h0 : (cs 0)[0]? = some ((cs 0)[0]'(by omega)) := List.getElem?_eq_getElem (by omega)
            simp only [cs, if_pos hp, Nat.zero_mul, List.drop_zero] at h0
            rw [List.getElem?_take_of_lt hn] at h0
            obtain ⟨g1, g2⟩ := q3 0 _ h0
            exact ⟨block_lt_of_cell g2, g1⟩
          · cases hb
        · cases hb
    · intro l J Jx W hW hJ hJx hY hj0
      refine hrun l b1 a xs.length cap cs _ J Jx hmx hcs List.mem_cons_self (fun hp => ?_) hY W ?_ (fun b o hab k hk i u hu => ?_) hj0
      · obtain ⟨b', o', q1, _⟩ := hflat hp
        refine ⟨b', o', q1, ?_⟩
        subst q1
        simp [hp]
      · rw [hW.cell (p := ⟨b1, 0, none⟩) (Array.getElem?_eq_some_iff.1 e2).1]; exact hcell0
      · obtain ⟨b', o', q1, q2, q3⟩ := hflat (by omega)
        rw [hab] at q1
        cases q1
        simp only [cs, if_pos hk] at hu
        have hi : i < t.n := by
          have := (List.getElem?_eq_some_iff.1 hu).1
          simp only [List.length_take] at this; omega
        rw [List.getElem?_take_of_lt hi, List.getElem?_drop] at hu
        obtain ⟨g1, g2⟩ := q3 _ _ hu
        rw [show o + k * t.n + i = o + (k * t.n + i) by omega, hW.cell (p := ⟨b, o + (k * t.n + i), none⟩) (block_lt_of_cell g2)]
        exact g2
end Go.Ev

/- The run of slices.Values's closure. -/
set_option linter.unusedSimpArgs false
set_option linter.unusedVariables false
namespace Go.Proofs.Ytjeinbfnbcempaa
open Go.Ev Go.RowKit Go.Shelf

attribute [local go_sem] Oper.semAt_some

theorem list_1_69 {l : List Value} (h : l.length = 1) : ∃ c0, l = [c0] := by
  match l, h with | [c0], _ => exact ⟨c0, rfl⟩

theorem fwd_measure69 {len k : Nat} (hm : len ≤ maxLen) (hk : k < len) : len - (intOf (Value.int .i64 (wrap64 ((k : Int) + 1)))).toNat < len - (intOf (Value.int .i64 (k : Int))).toNat := by
  have e : wrap64 ((k : Int) + 1) = (k : Int) + 1 := by unfold maxLen at hm; unfold wrap64; omega
  rw [e]
  show len - ((k : Int) + 1).toNat < len - ((k : Int)).toNat
  omega

set_option maxRecDepth 100000 in
set_option maxHeartbeats 4000000 in
theorem run69 : RunsSl Try.prog 69 1 (encValues false) := by
  intro l Bs a len cap cs bs J Jx hm hcs hB hab hY W hBs hcell0 h0
  refine callsIn_of_wp Try.func69 rfl trivial ?_
  simp only [Try.ntmps69, List.size_toArray, List.length_cons, List.length_nil, Nat.reduceAdd, Nat.reduceSub, Array.replicate_succ, Array.replicate_zero, List.push_toArray, List.append_toArray, List.nil_append, List.cons_append]
  gi_wp2
  gi_loopw [7] (fun i wr => ∃ k : Nat, k ≤ len ∧ i = .int .i64 ((k : Int)) ∧ J (List.range k) wr ∧ KpB bs W wr) (fun i _ => len - (intOf i).toNat)
  case atStart => exact ⟨0, Nat.zero_le _, by simp; try (rw [wrap64_sub1 hm]), h0, fun _ _ => rfl⟩
  case round =>
    obtain ⟨k, hk, rfl, hJs, hnx⟩ := hrel
    have hBs' : wr.cell? ⟨Bs, 0, none⟩ = some (.slice a len cap) := (World.cell?_of_block (a := ⟨Bs, 0, none⟩) (hnx Bs hB)).trans hBs
    by_cases hlt : k < len
    · obtain ⟨b, off, rfl, hb⟩ := hab (by omega)
      have hlen := hcs k
      have hcell : ∀ i u, (cs k)[i]? = some u → wr.cell? ⟨b, off + k * 1 + i, none⟩ = some u := fun i u hu => (World.cell?_of_block (a := ⟨b, off + k * 1 + i, none⟩) (hnx b hb)).trans (hcell0 b off rfl k (by omega) i u hu)
      obtain ⟨fn, tmps, assign, body, hy, hR⟩ := hY (List.range k) k wr (pfx_range hlt) hJs
      unfold encValues at hy
      obtain ⟨c0, hcse⟩ := list_1_69 hlen
      rw [hcse] at hcell hy
      have hc0 : wr.cell? ⟨b, off + k, none⟩ = some c0 := by have := hcell 0 c0 rfl; simpa using this
      simp only [mkV, if_true, if_false, Bool.false_eq_true, List.getD_cons_zero] at hy
      gi_wp2
      refine hR.mono ?_
      rintro e W3 (⟨rfl, hJ3, hk3, _⟩ | ⟨rfl, hJx3⟩)
      · gi_wp2
        go_roundw
        case rel => exact ⟨k + 1, by omega, wrap64_fwd hm hlt, by rw [List.range_succ]; exact hJ3, fun bb h => (hk3 bb h).trans (hnx bb h)⟩
        case measure => exact fwd_measure69 hm hlt
      · gi_wp2
        refine bodyPost_ret (results_none rfl _ _ _) rfl ?_
        exact ⟨⟨_, rfl⟩, .inr ⟨_, pfx_range hlt, hJx3⟩⟩
    · obtain rfl : k = len := by omega
      gi_wp2
      go_end0
      exact ⟨⟨_, rfl⟩, .inl ⟨_, rfl, hJs⟩⟩

end Go.Proofs.Ytjeinbfnbcempaa

/- The library's sorts, as contracts: a row is sorted in place. -/
set_option linter.unusedSimpArgs false
set_option linter.unusedVariables false
namespace Go.Ev
open Go.Sort (putCells putRow mapBlock onCells grow Holds)

section
variable {cx : Cx} {σ : Nat → Value} {N : Nat → Prop} {m : Mem} {w : World} {P : Program}

theorem putCells_list (F cur : Array Value) (h : F.size ≤ cur.size) : (putCells id 0 F cur).toList = F.toList ++ cur.toList.drop F.size := by
  apply List.ext_getElem
  · simp [putCells]; omega
  · intro k h1 h2
    have hk : k < cur.size := by simpa [putCells] using h1
    simp only [putCells, Array.getElem_toList, Array.getElem_mapIdx, List.getElem_append, Array.length_toList, List.getElem_drop, Nat.zero_le, true_and, Nat.zero_add, Nat.sub_zero, id]
    split
    · rename_i hlt
      exact getElem!_pos F k hlt
    · rename_i hlt
      congr 1; omega

theorem putRow_map {α : Type} [Inhabited α] (enc : α → Value) (w : World) (g : Nat) (d : Array α) : putRow enc w g 0 d = putRow id w g 0 (d.map enc) := by
  unfold putRow
  refine Go.Sort.mapBlock_congr _ _ _ _ fun c _ _ _ => ?_
  apply Array.ext
  · simp [putCells]
  · intro k h1 h2
    simp only [putCells, Array.getElem_mapIdx, Array.size_map, Nat.sub_zero, id]
    split
    · rename_i hlt
      rw [getElem!_pos d k (by omega), getElem!_pos (d.map enc) k (by simp; omega)]
      simp
    · rfl

/-- The world behind a sort. -/
structure Sorted (w w' : World) (g : Nat) (e : TypeId) (cur : Array Value) (F : Array Value) : Prop where
  os : w'.os = w.os
  tape : w'.tape = w.tape
  output : w'.output = w.output
  size : w.heap.size ≤ w'.heap.size
  drawn : w.drawn ≤ w'.drawn
  block : ∀ b, b < w.heap.size → b ≠ g → w'.heap[b]? = w.heap[b]?
  row : ∃ cur' : Array Value, w'.heap[g]? = some (.cells cur' e (0, 0)) ∧ cur'.toList = F.toList ++ cur.toList.drop F.size

theorem sorted_world {g : Nat} {e : TypeId} {cur F : Array Value} (hg : w.heap[g]? = some (.cells cur e (0, 0))) (hF : F.size ≤ cur.size) (n : Nat) (os : Array Obj) : Sorted w (grow (putRow id (Go.Sort.ahead w n) g 0 F) os) g e cur F := by
  have hlt : g < w.heap.size := (Array.getElem?_eq_some_iff.1 hg).1
  refine ⟨rfl, rfl, rfl, by simp, by simp [grow, putRow, mapBlock, Go.Sort.ahead], fun b hb hne => ?_, putCells id 0 F cur, ?_, putCells_list F cur hF⟩
  · rw [Go.Sort.heap_grow_old _ _ (by simpa using hb)]
    simp [putRow, mapBlock, Go.Sort.ahead, Array.getElem?_modify, Ne.symm hne]
  · rw [Go.Sort.heap_grow_old _ _ (by simpa using hlt)]
    simp [putRow, mapBlock, Go.Sort.ahead, Array.getElem?_modify, hg, onCells]

/-- The state behind a sort. -/
theorem row_sorted (h : RepM cx σ N m w) {id : Nat} (hn : ¬ N id) {e : TypeId} {t : Ty} {xs : List t.den} (hm : m id = .row e t xs) {g cap : Nat} {cur : Array Value} (hσ : σ id = .slice (some ⟨g, 0, none⟩) xs.length cap) (hc : 0 < cap)
    (hg : w.heap[g]? = some (.cells cur e (0, 0))) (hlc : xs.length ≤ cap) (hcm : cap ≤ maxLen) (hcs : cur.size = cap * t.n) {xs' : List t.den} (hl : xs'.length = xs.length) {F : Array Value} (hF : roAll (ro w (Owned cx σ m) t) xs' F.toList) {w' : World} (hw : Sorted w w' g e cur F) (fr : Nat) (p : Prop) {q : Prop} (hq : q) :
    Res cx σ N m w fr ⟨p, .tup [], [(id, .row e t xs')], q⟩ (.tuple #[]) w' := by
  have hFl := roAll_len (fun x c => ro_len t x c) _ _ hF
  rw [Array.length_toList] at hFl
  obtain ⟨cur', hg', hcur'⟩ := hw.row
  obtain ⟨g1, g2⟩ := h.step (σ' := σ) (N' := Nx N fr) (m' := upd m id (.row e t xs')) (w' := w') (fun i => i = id) (fun _ k => k.1)
    (fun i k => by
      by_cases hi : i = id
      · subst hi; exact absurd k.1 hn
      · rw [upd_ne _ _ hi]; exact h.fresh i k.1)
    (fun i k => ⟨upd_ne _ _ k, rfl⟩) (fun _ _ => rfl)
    (fun b hb hx => hw.block b hb (fun e' => hx id rfl (by rw [hm]; rfl) (by rw [hσ, e']; exact .inl (blkOf_slice hc)))) ⟨hw.size, hw.drawn⟩ hw.os hw.tape hw.output
    (fun i b hi _ hb => .inr ⟨id, rfl, by rw [hm]; rfl, by rw [← hi]; exact hb⟩)
    (fun i i' b hi hi' _ _ _ _ => hi.trans hi'.symm) (fun i _ => h.hone i)
    (fun hk i hi => by
      subst hi
      rw [upd_same]
      have hfit : xs.length * t.n ≤ cap * t.n := Nat.mul_le_mul_right _ hlc
      refine ⟨xs'.length, F.toList, rfl, ?_, roAll_mono (ro_keep hk.k t) _ _ hF⟩
      simp only [rx]
      rw [hσ, ← hl]
      refine rowR_of (by rw [Array.length_toList, hFl]) hg' (by omega) hcm ?_ ?_
      · rw [← Array.length_toList, hcur']
        simp only [List.length_append, Array.length_toList, List.length_drop, hcs, hFl, hl]
        omega
      · rw [hcur', ← hFl, ← Array.length_toList]
        exact List.take_left)
  refine ⟨σ, g1, g2, ?_, hq⟩
  unfold repA
  exact ⟨[], rfl, by unfold repAs; rfl⟩

def sortI (xs : List Int) : List Int := xs.mergeSort fun x y => decide (x ≤ y)

theorem ro_ints {O : Nat → Prop} {k : IntKind} : ∀ (xs : List Int) (flat : List Value), roAll (ro w O (.int k)) xs flat → flat = xs.map (Value.int k) ∧ ∀ x ∈ xs, InR k x
  | [], flat, h => ⟨h, by simp⟩
  | x :: xs, _, ⟨c, d, e, h, hr⟩ => by
    obtain ⟨h1, h2⟩ := ro_ints xs d hr
    obtain ⟨g1, g2⟩ := h
    refine ⟨by rw [e, g1, h1]; rfl, fun y hy => ?_⟩
    rcases List.mem_cons.1 hy with rfl | hy
    · exact g2
    · exact h2 y hy
theorem ints_ro {O : Nat → Prop} {k : IntKind} : ∀ (xs : List Int), (∀ x ∈ xs, InR k x) → roAll (ro w O (.int k)) xs (xs.map (Value.int k))
  | [], _ => rfl
  | x :: xs, h => ⟨[.int k x], _, rfl, ⟨rfl, h x List.mem_cons_self⟩, ints_ro xs fun y hy => h y (List.mem_cons_of_mem _ hy)⟩

/-- slices.Sort at ints. -/
def sortCon (e : TypeId) : Con := { ps := [.o e (.int .i64)], rs := [], pre := fun x => x.1.length < 4611686018427387904, out := fun _ => (), nw := fun x => (sortI x.1, ()) }
theorem sort_int {ρ : Go.Shelf.Ren} (L : Go.Proofs.SlLaysM.n5 P ρ) (e : TypeId) : CtrOk P (ρ.f 5) (sortCon e).ctr := by
  intro D hDS cx hcd σ N m w fr avs vs h hfr hreps hp
  unfold Con.ctr Con.effO at hp ⊢
  cases hrd : rds m (sortCon e).ps avs with
  | none => rw [hrd] at hp; exact hp.elim
  | some x =>
    rw [hrd] at hp
    simp only at hp ⊢
    split at hp
    · rename_i hid
      rw [if_pos hid]
      obtain ⟨xs, u⟩ := x
      cases u
      match avs, hrd, hreps, hid with
      | [v], hrd, hreps, hid =>
        simp only [sortCon, rds] at hrd
        obtain ⟨h1, _⟩ := implP_some hrd
        obtain ⟨id, rfl, h2⟩ := rd_o h1
        have hm := rdRow_some h2
        unfold repAs at hreps
        obtain ⟨v0, r, rfl, h3, h4⟩ := hreps
        unfold repAs at h4
        subst h4
        unfold repA repC at h3
        obtain ⟨hn, rfl⟩ := h3
        simp only [rx] at hn ⊢
        have hsz : xs.length < 4611686018427387904 := hp
        have goal_eff : ∀ (w' : World), Res cx σ N m w fr ⟨xs.length < 4611686018427387904, .tup [], [(id, .row e (.int .i64) (sortI xs))], True⟩ (.tuple #[]) w' →
            ∃ v, Ending.returned (.tuple #[]) = .returned v ∧ Res cx σ N m w fr ((sortCon e).eff [.one (.row id)] m fr (xs, ())) v w' := fun w' hr => ⟨_, rfl, hr⟩
        have hb := h.blk id
        rw [hm] at hb
        obtain ⟨n', flat, rfl, k1, k2⟩ := hb
        simp only [rx] at k1 k2
        obtain ⟨hfl, hin⟩ := ro_ints xs flat k2
        rcases k1.2 with ⟨e2, a0, e1⟩ | ⟨g, cap, cur, hc, e1, hg, hlc, hcm, hcs, htk⟩
        · have hx : xs = [] := List.eq_nil_of_length_eq_zero e2
          subst hx
          rw [e1]
          refine (Go.Proofs.AnyM.slices_Sort_int_none L a0 0 w).mono ?_
          rintro e' w' ⟨rfl, rfl⟩
          refine goal_eff _ ?_
          have hs : sortI [] = [] := by simp [sortI]
          rw [hs]
          obtain ⟨g1, g2⟩ := h.weaken (N' := Nx N fr) (fun _ k => k.1)
          have hmm : updM m [(id, Blk.row e (.int .i64) [])] = m := same_row hm
          refine ⟨σ, ?_, ?_, ?_, trivial⟩ <;> simp only [hmm]
          · exact g1
          · exact g2
          · unfold repA; exact ⟨[], rfl, by unfold repAs; rfl⟩
        · have hcz : flat.length = xs.length * 1 := k1.1
          have hH : Holds (Value.int .i64) w g 0 xs.toArray := by
            intro j hj
            have hj' : j < xs.length := by simpa using hj
            rw [Nat.zero_add]
            refine ⟨?_, by simp [World.frozen?, hg]⟩
            refine rowR_cells k1 (g := g) (by rw [e1]; exact blkOf_slice hc) j _ ?_
            rw [hfl, List.getElem?_map, List.getElem?_eq_getElem hj', getElem!_pos xs.toArray j hj]
            rfl
          have hlt : g < w.heap.size := (Array.getElem?_eq_some_iff.1 hg).1
          rw [e1]
          refine (Go.Proofs.AnyM.slices_Sort_int L g 0 cap xs w hH hlt hsz).mono ?_
          rintro e' w' ⟨rfl, n, os, rfl⟩
          refine goal_eff _ ?_
          rw [putRow_map]
          have hl : (sortI xs).length = xs.length := List.length_mergeSort xs
          refine row_sorted h hn hm e1 hc hg hlc hcm hcs hl ?_ (sorted_world hg ?_ n os) fr _ trivial
          · have : ((sortI xs).toArray.map (Value.int .i64)).toList = (sortI xs).map (Value.int .i64) := by simp
            rw [show (List.mergeSort xs fun x y => decide (x ≤ y)) = sortI xs from rfl, this]
            exact ints_ro _ fun x hx => hin x ((List.mergeSort_perm xs _).mem_iff.1 hx)
          · have h9 : cap * 1 = cur.size := hcs.symm
            simp only [List.map_toArray, List.size_toArray, List.length_map, List.length_mergeSort]
            omega
      | [], hrd, _, _ => simp [sortCon, rds] at hrd
      | _ :: _ :: _, hrd, _, _ => 
        simp only [sortCon, rds] at hrd
        obtain ⟨_, h2⟩ := implP_some hrd
        cases h2
    · exact hp.elim

end
end Go.Ev

/- Sorted ints of a slice's values; a list without repetitions. -/
set_option linter.unusedSimpArgs false
set_option linter.unusedVariables false
set_option maxRecDepth 100000
set_option maxHeartbeats 4000000
namespace Go.Proofs.Ytjeinbfnbcempaa
open Go.Ev

def it69 : ItC := itSl .vals 23 (.int .i64) false
theorem i69 : ItOk Try.prog 69 it69 := itSl_ok (K := .vals) (t := .int .i64) run69 (by decide) (fun _ => rfl)
def con55 : Con := { ps := [.d false (.sl (.int .i64))], rs := [.cl 69 23 (.sl (.int .i64))], pre := fun x => True, out := fun x => (x.1, ()), nw := id }
theorem c55 : CtrOk Try.prog 55 con55.ctr :=
  con_sound (G := ⟨[], [], [], []⟩) tab_ok EnvOk.nil rfl Try.func55 rfl con55 7 (by kernel_rfl) (by decide) (by decide) rfl (by decide) rfl (by
    rintro ⟨(xs : List Int), _⟩ hpre hwf X hT hG hk hK
    (simp -implicitDefEqProofs only [go_sem, Prod.eta, Option.isSome_none, Option.isSome_some, Int.toNat_zero, Nat.reduceAdd, Nat.reduceMul, Nat.reduceSub, Nat.reduceEqDiff, Nat.reduceLT, Nat.reduceLeDiff, Nat.reduceShiftRight, Nat.reduceMod, Nat.reduceBEq, reduceCtorEq, reduceIte, reduceDIte, Int.reduceNeg, Bool.not_eq_true', Bool.not_eq_false', Bool.or_eq_true, Bool.or_eq_false_iff, Bool.and_eq_true, Bool.and_eq_false_iff, decide_eq_true_eq, decide_eq_false_iff_not, Classical.not_not, not_or, maxLen, con55, hT, hG, hk, hK, Try.results55] at hwf ⊢); (try simp (disch := decide +kernel) only [drawn, true_and, and_true])
    skip)
def con77 : Con := { ps := [.nl, .cl 69 [.po 23 (.sl (.int .i64))]], rs := [.o 3 (.int .i64)], pre := fun (x : Unit × (List Int × Unit) × Unit) => x.2.1.1.length ≤ 10000000, out := fun (x : Unit × (List Int × Unit) × Unit) => (x.2.1.1, ()), nw := id }
theorem c77 : CtrOk Try.prog 77 con77.ctr :=
  con_sound (G := ⟨[], [], [(4, 2)], [(69, it69)]⟩) tab_ok (EnvOk.icons i69 has69 EnvOk.nil) rfl Try.func77 rfl con77 247 (by kernel_rfl) (by decide) (by decide) rfl (by decide) rfl (by
    rintro ⟨_, ⟨(xs : List Int), _⟩, _⟩ hpre hwf X hT hG hk hK
    have hl : xs.length ≤ 10000000 := hpre
    (simp -implicitDefEqProofs only [go_sem, Prod.eta, Option.isSome_none, Option.isSome_some, Int.toNat_zero, Nat.reduceAdd, Nat.reduceMul, Nat.reduceSub, Nat.reduceEqDiff, Nat.reduceLT, Nat.reduceLeDiff, Nat.reduceShiftRight, Nat.reduceMod, Nat.reduceBEq, reduceCtorEq, reduceIte, reduceDIte, Int.reduceNeg, Bool.not_eq_true', Bool.not_eq_false', Bool.or_eq_true, Bool.or_eq_false_iff, Bool.and_eq_true, Bool.and_eq_false_iff, decide_eq_true_eq, decide_eq_false_iff_not, Classical.not_not, not_or, maxLen, con77, hT, hG, hk, hK, Try.results77] at hwf ⊢); (try simp (disch := decide +kernel) only [drawn, true_and, and_true])
    refine evk_range (I := it69) (E := slG .vals (.int .i64) false _ xs) ⟨fun p => { u : Unit // True }, 1000, [(2, .one (.loc 64 0))], fun p _ => if p.length = 0 then [(64, .cells 23 [.nilsl])] else [(64, .cells 23 [.row 65]), (65, .row 3 (.int .i64) (xs.take p.length))]⟩ ⟨(), trivial⟩ rfl ?_ rfl trivial rfl ?_ (by kernel_rfl) (by kernel_rfl) rfl ?_ ?_
    · rw [hG]; rfl
    · simp only [List.length_nil, if_true]
      simp only [go_sem, Prod.eta, Option.isSome_none, Option.isSome_some, Int.toNat_zero, Nat.reduceAdd, Nat.reduceMul, Nat.reduceSub, Nat.reduceEqDiff, Nat.reduceLT, Nat.reduceLeDiff, Nat.reduceShiftRight, Nat.reduceMod, Nat.reduceBEq, reduceCtorEq, reduceIte, reduceDIte, Int.reduceNeg]
      try (first | rfl | exact ⟨rfl, rfl⟩)
    · rintro p j ⟨_, _⟩ hpf hasm
      obtain ⟨rfl, hj⟩ := pfx_at hpf
      have hml : (xs.take (List.range j).length).length ≤ 10000000 := by simp; omega
      have hst : xs.take ((List.range j ++ [j]).length) = xs.take (List.range j).length ++ [xs.getD j 0] := by
        rw [List.length_append, List.length_range, List.length_singleton, List.take_succ_eq_append_getElem (by simpa using hj)]
        simp [List.getD_eq_getElem?_getD, hj]
      have hne : ((List.range j ++ [j]).length = 0) = False := by simp
      by_cases hj0 : (List.range j).length = 0
      · simp only [hj0, if_true]
        (simp -implicitDefEqProofs only [go_sem, Prod.eta, Option.isSome_none, Option.isSome_some, Int.toNat_zero, Nat.reduceAdd, Nat.reduceMul, Nat.reduceSub, Nat.reduceEqDiff, Nat.reduceLT, Nat.reduceLeDiff, Nat.reduceShiftRight, Nat.reduceMod, Nat.reduceBEq, reduceCtorEq, reduceIte, reduceDIte, Int.reduceNeg, Bool.not_eq_true', Bool.not_eq_false', Bool.or_eq_true, Bool.or_eq_false_iff, Bool.and_eq_true, Bool.and_eq_false_iff, decide_eq_true_eq, decide_eq_false_iff_not, Classical.not_not, not_or, maxLen, con77, hT, hG, hk, hK, Try.results77]); (try simp (disch := decide +kernel) only [drawn, true_and, and_true])
        refine fin_rf ⟨(), trivial⟩ ?_
        simp only [hne, if_false]
        simp only [go_sem, Prod.eta, Option.isSome_none, Option.isSome_some, Int.toNat_zero, Nat.reduceAdd, Nat.reduceMul, Nat.reduceSub, Nat.reduceEqDiff, Nat.reduceLT, Nat.reduceLeDiff, Nat.reduceShiftRight, Nat.reduceMod, Nat.reduceBEq, reduceCtorEq, reduceIte, reduceDIte, Int.reduceNeg]
        rw [hst, hj0]
        first | done | rfl
      · simp only [hj0, if_false]
        (simp -implicitDefEqProofs only [go_sem, Prod.eta, Option.isSome_none, Option.isSome_some, Int.toNat_zero, Nat.reduceAdd, Nat.reduceMul, Nat.reduceSub, Nat.reduceEqDiff, Nat.reduceLT, Nat.reduceLeDiff, Nat.reduceShiftRight, Nat.reduceMod, Nat.reduceBEq, reduceCtorEq, reduceIte, reduceDIte, Int.reduceNeg, Bool.not_eq_true', Bool.not_eq_false', Bool.or_eq_true, Bool.or_eq_false_iff, Bool.and_eq_true, Bool.and_eq_false_iff, decide_eq_true_eq, decide_eq_false_iff_not, Classical.not_not, not_or, maxLen, con77, hT, hG, hk, hK, Try.results77]); (try simp (disch := decide +kernel) only [drawn, true_and, and_true])
        refine ⟨by omega, ?_⟩
        refine fin_rf ⟨(), trivial⟩ ?_
        simp only [hne, if_false]
        simp only [go_sem, Prod.eta, Option.isSome_none, Option.isSome_some, Int.toNat_zero, Nat.reduceAdd, Nat.reduceMul, Nat.reduceSub, Nat.reduceEqDiff, Nat.reduceLT, Nat.reduceLeDiff, Nat.reduceShiftRight, Nat.reduceMod, Nat.reduceBEq, reduceCtorEq, reduceIte, reduceDIte, Int.reduceNeg]
        rw [hst]
        first | done | rfl
    · rintro p ⟨_, _⟩ hp
      have hpl : p.length = xs.length := by rw [show p = List.range xs.length from hp, List.length_range]
      by_cases hj0 : p.length = 0
      · have hx0 : xs = [] := List.eq_nil_of_length_eq_zero (by omega)
        subst hx0
        simp only [hj0, if_true]
        (simp -implicitDefEqProofs only [go_sem, Prod.eta, Option.isSome_none, Option.isSome_some, Int.toNat_zero, Nat.reduceAdd, Nat.reduceMul, Nat.reduceSub, Nat.reduceEqDiff, Nat.reduceLT, Nat.reduceLeDiff, Nat.reduceShiftRight, Nat.reduceMod, Nat.reduceBEq, reduceCtorEq, reduceIte, reduceDIte, Int.reduceNeg, Bool.not_eq_true', Bool.not_eq_false', Bool.or_eq_true, Bool.or_eq_false_iff, Bool.and_eq_true, Bool.and_eq_false_iff, decide_eq_true_eq, decide_eq_false_iff_not, Classical.not_not, not_or, maxLen, con77, hT, hG, hk, hK, Try.results77]); (try simp (disch := decide +kernel) only [drawn, true_and, and_true])
      · simp only [hj0, if_false]
        (simp -implicitDefEqProofs only [go_sem, Prod.eta, Option.isSome_none, Option.isSome_some, Int.toNat_zero, Nat.reduceAdd, Nat.reduceMul, Nat.reduceSub, Nat.reduceEqDiff, Nat.reduceLT, Nat.reduceLeDiff, Nat.reduceShiftRight, Nat.reduceMod, Nat.reduceBEq, reduceCtorEq, reduceIte, reduceDIte, Int.reduceNeg, Bool.not_eq_true', Bool.not_eq_false', Bool.or_eq_true, Bool.or_eq_false_iff, Bool.and_eq_true, Bool.and_eq_false_iff, decide_eq_true_eq, decide_eq_false_iff_not, Classical.not_not, not_or, maxLen, con77, hT, hG, hk, hK, Try.results77]); (try simp (disch := decide +kernel) only [drawn, true_and, and_true])
        rw [hpl, List.take_length])
def con67 : Con := { ps := [.cl 69 [.po 23 (.sl (.int .i64))]], rs := [.o 3 (.int .i64)], pre := fun (x : (List Int × Unit) × Unit) => x.1.1.length ≤ 10000000, out := fun (x : (List Int × Unit) × Unit) => (x.1.1, ()), nw := id }
theorem c67 : CtrOk Try.prog 67 con67.ctr :=
  con_sound (G := ⟨[(77, con77.ctr)], [], [], []⟩) tab_ok (EnvOk.cons c77 has77 EnvOk.nil) rfl Try.func67 rfl con67 5 (by kernel_rfl) (by decide) (by decide) rfl (by decide) rfl (by
    rintro ⟨⟨(xs : List Int), _⟩, _⟩ hpre hwf X hT hG hk hK
    have hl : xs.length ≤ 10000000 := hpre
    (simp -implicitDefEqProofs only [go_sem, Prod.eta, Option.isSome_none, Option.isSome_some, Int.toNat_zero, Nat.reduceAdd, Nat.reduceMul, Nat.reduceSub, Nat.reduceEqDiff, Nat.reduceLT, Nat.reduceLeDiff, Nat.reduceShiftRight, Nat.reduceMod, Nat.reduceBEq, reduceCtorEq, reduceIte, reduceDIte, Int.reduceNeg, Bool.not_eq_true', Bool.not_eq_false', Bool.or_eq_true, Bool.or_eq_false_iff, Bool.and_eq_true, Bool.and_eq_false_iff, decide_eq_true_eq, decide_eq_false_iff_not, Classical.not_not, not_or, maxLen, con67, con77, hT, hG, hk, hK, Try.results67] at hwf ⊢); (try simp (disch := decide +kernel) only [drawn, true_and, and_true])
    exact hl)
def con68 : Con := sortCon 3
theorem c68 : CtrOk Try.prog 68 con68.ctr := sort_int Try.sort68 3
def con54 : Con := { ps := [.cl 69 [.po 23 (.sl (.int .i64))]], rs := [.o 3 (.int .i64)], pre := fun (x : (List Int × Unit) × Unit) => x.1.1.length ≤ 10000000, out := fun (x : (List Int × Unit) × Unit) => (sortI x.1.1, ()), nw := id }
theorem c54 : CtrOk Try.prog 54 con54.ctr :=
  con_sound (G := ⟨[(67, con67.ctr), (68, con68.ctr)], [], [], []⟩) tab_ok (EnvOk.cons c67 has67 (EnvOk.cons c68 has68 EnvOk.nil)) rfl Try.func54 rfl con54 13 (by kernel_rfl) (by decide) (by decide) rfl (by decide) rfl (by
    rintro ⟨⟨(xs : List Int), _⟩, _⟩ hpre hwf X hT hG hk hK
    have hl : xs.length ≤ 10000000 := hpre
    (simp -implicitDefEqProofs only [go_sem, Prod.eta, Option.isSome_none, Option.isSome_some, Int.toNat_zero, Nat.reduceAdd, Nat.reduceMul, Nat.reduceSub, Nat.reduceEqDiff, Nat.reduceLT, Nat.reduceLeDiff, Nat.reduceShiftRight, Nat.reduceMod, Nat.reduceBEq, reduceCtorEq, reduceIte, reduceDIte, Int.reduceNeg, Bool.not_eq_true', Bool.not_eq_false', Bool.or_eq_true, Bool.or_eq_false_iff, Bool.and_eq_true, Bool.and_eq_false_iff, decide_eq_true_eq, decide_eq_false_iff_not, Classical.not_not, not_or, maxLen, con54, con67, con68, hT, hG, hk, hK, Try.results54, sortCon] at hwf ⊢); (try simp (disch := decide +kernel) only [drawn, true_and, and_true])
    exact ⟨hl, fun _ => by omega⟩)
/-- A list without the elements that are as the one before. -/
def ddU (xs : List Int) : Nat → List Int
  | 0 => []
  | i + 1 => ddU xs i ++ if i ≠ 0 ∧ xs.getD i 0 = xs.getD (i - 1) 0 then [] else [xs.getD i 0]
def compV (xs : List Int) : List Int := ddU xs xs.length
theorem ddU_len (xs : List Int) : ∀ i, (ddU xs i).length ≤ i
  | 0 => Nat.le_refl _
  | i + 1 => by
    have := ddU_len xs i
    rw [ddU, List.length_append]
    split <;> simp <;> omega
def con56 : Con := { ps := [.oc 3 (.int .i64)], rs := [.o 3 (.int .i64)], pre := fun x => True, out := fun x => (compV x.1, ()), nw := id }
theorem c56 : CtrOk Try.prog 56 con56.ctr :=
  con_sound (G := ⟨[], [], [(9, 2), (28, 1), (56, 1), (59, 2), (60, 2)], []⟩) tab_ok EnvOk.nil rfl Try.func56 rfl con56 17596514574653 (by kernel_rfl) (by decide) (by decide) rfl (by decide) rfl (by
    rintro ⟨(xs : List Int), _⟩ hpre hwf X hT hG hk hK
    (simp -implicitDefEqProofs only [go_sem, Prod.eta, Option.isSome_none, Option.isSome_some, Int.toNat_zero, Nat.reduceAdd, Nat.reduceMul, Nat.reduceSub, Nat.reduceEqDiff, Nat.reduceLT, Nat.reduceLeDiff, Nat.reduceShiftRight, Nat.reduceMod, Nat.reduceBEq, reduceCtorEq, reduceIte, reduceDIte, Int.reduceNeg, Bool.not_eq_true', Bool.not_eq_false', Bool.or_eq_true, Bool.or_eq_false_iff, Bool.and_eq_true, Bool.and_eq_false_iff, decide_eq_true_eq, decide_eq_false_iff_not, Classical.not_not, not_or, maxLen, con56, hT, hG, hk, hK, Try.results56] at hwf ⊢); (try simp (disch := decide +kernel) only [drawn, true_and, and_true])
    refine fun hln => ⟨fun h2 => ?_, fun h2 => ?_⟩
    · match xs, h2 with
      | [], _ => rfl
      | [a], _ => rfl
      | a :: b :: l, h2 => simp at h2; omega
    · refine evk_loop ⟨{ k : Nat // 1 ≤ k ∧ k ≤ xs.length ∧ ddU xs k = xs.take k }, 1000, fun k => [(0, .one (.row 0)), (3, .one (.int .i64 k.1))], fun k => [(0, .row 3 (.int .i64) xs)], fun k => xs.length - k.1⟩ ⟨1, by omega, by omega, by simp [ddU]; match xs, h2 with | [], h2 => simp at h2 | a :: l, _ => rfl⟩ ?_ ?_
      · simp only [go_sem, Prod.eta, Option.isSome_none, Option.isSome_some, Int.toNat_zero, Nat.reduceAdd, Nat.reduceMul, Nat.reduceSub, Nat.reduceEqDiff, Nat.reduceLT, Nat.reduceLeDiff, Nat.reduceShiftRight, Nat.reduceMod, Nat.reduceBEq, reduceCtorEq, reduceIte, reduceDIte, Int.reduceNeg]
        rfl
      · rintro ⟨k, (hk1 : 1 ≤ k), (hk2 : k ≤ xs.length), (hk3 : ddU xs k = xs.take k)⟩
        (simp -implicitDefEqProofs only [go_sem, Prod.eta, Option.isSome_none, Option.isSome_some, Int.toNat_zero, Nat.reduceAdd, Nat.reduceMul, Nat.reduceSub, Nat.reduceEqDiff, Nat.reduceLT, Nat.reduceLeDiff, Nat.reduceShiftRight, Nat.reduceMod, Nat.reduceBEq, reduceCtorEq, reduceIte, reduceDIte, Int.reduceNeg, Bool.not_eq_true', Bool.not_eq_false', Bool.or_eq_true, Bool.or_eq_false_iff, Bool.and_eq_true, Bool.and_eq_false_iff, decide_eq_true_eq, decide_eq_false_iff_not, Classical.not_not, not_or, maxLen, con56, hT, hG, hk, hK, Try.results56]); (try simp (disch := decide +kernel) only [drawn, true_and, and_true])
        refine fun _ => ⟨fun hlt => ?_, fun hge => ?_⟩
        · have hkl : k < xs.length := by omega
          have e1 : ∀ z, xs.getD (k : Int).toNat z = xs[k] := fun z => by simp [hkl]
          have e2 : ∀ z, xs.getD ((k : Int) - 1).toNat z = xs[k - 1] := fun z => by
            rw [show ((k : Int) - 1).toNat = k - 1 by omega]; simp [show k - 1 < xs.length by omega]
          have f1 : ∀ i (h : i < xs.length), xs.getD i 0 = xs[i] := fun i h => by simp [h]
          simp only [e1, e2]
          refine ⟨⟨by omega, by omega⟩, fun _ => ⟨⟨by omega, by omega⟩, fun _ => ⟨⟨by omega, by omega⟩, ⟨by omega, by omega⟩, fun _ => ⟨⟨by omega, by omega⟩, fun _ => ⟨fun heq => ⟨⟨by omega, by omega, by omega⟩, ?_⟩, fun hne => ?_⟩⟩⟩⟩⟩
          · have b0 : ddU xs (k + 1) = xs.take k := by
              rw [ddU, f1 k hkl, f1 (k - 1) (by omega), if_pos ⟨by omega, heq⟩, List.append_nil, hk3]
            have g1 : (k : Int).toNat = k := by omega
            have g2 : ((xs.length : Int) - (k : Int)).toNat = xs.length - k := by omega
            rw [g1, g2]
            refine evk_loop ⟨{ q : Nat × Nat × List Int // k ≤ q.1 ∧ q.1 ≤ k + q.2.1 - 1 ∧ 1 ≤ q.2.1 ∧ q.2.1 ≤ xs.length - k ∧ q.2.2.length = xs.length ∧ q.2.2.take q.1 = ddU xs (k + q.2.1) ∧ q.2.2.drop (k + q.2.1 - 1) = xs.drop (k + q.2.1 - 1) }, 2000, fun q => [(0, .one (.row 0)), (3, .one (.int .i64 q.1.1)), (4, .one (.win 0 1 k (xs.length - k))), (5, .one (.int .i64 q.1.2.1))], fun q => [(0, .row 3 (.int .i64) q.1.2.2)], fun q => xs.length - q.1.2.1⟩ ⟨(k, 1, xs), by dsimp only; omega, by dsimp only; omega, by dsimp only; omega, by dsimp only; omega, rfl, b0.symm, rfl⟩ ?_ ?_
            · simp only [go_sem, Prod.eta, Option.isSome_none, Option.isSome_some, Int.toNat_zero, Nat.reduceAdd, Nat.reduceMul, Nat.reduceSub, Nat.reduceEqDiff, Nat.reduceLT, Nat.reduceLeDiff, Nat.reduceShiftRight, Nat.reduceMod, Nat.reduceBEq, reduceCtorEq, reduceIte, reduceDIte, Int.reduceNeg]
              rfl
            · rintro ⟨⟨a, p, R⟩, (c1 : k ≤ a), (c2 : a ≤ k + p - 1), (c3 : 1 ≤ p), (c4 : p ≤ xs.length - k), (c5 : R.length = xs.length), (c6 : R.take a = ddU xs (k + p)), (c7 : R.drop (k + p - 1) = xs.drop (k + p - 1))⟩
              have hw : (k + (xs.length - k) ≤ R.length) = True := by rw [eq_iff_iff, iff_true]; omega
              (simp -implicitDefEqProofs only [go_sem, Prod.eta, Option.isSome_none, Option.isSome_some, Int.toNat_zero, Nat.reduceAdd, Nat.reduceMul, Nat.reduceSub, Nat.reduceEqDiff, Nat.reduceLT, Nat.reduceLeDiff, Nat.reduceShiftRight, Nat.reduceMod, Nat.reduceBEq, reduceCtorEq, reduceIte, reduceDIte, Int.reduceNeg, Bool.not_eq_true', Bool.not_eq_false', Bool.or_eq_true, Bool.or_eq_false_iff, Bool.and_eq_true, Bool.and_eq_false_iff, decide_eq_true_eq, decide_eq_false_iff_not, Classical.not_not, not_or, maxLen, con56, hT, hG, hk, hK, Try.results56, hw]); (try simp (disch := decide +kernel) only [drawn, true_and, and_true])
              have at_ : ∀ i, k + p - 1 ≤ i → ∀ z, R.getD i z = xs.getD i z := fun i hi z => by
                have h := congrArg (fun l : List Int => l[i - (k + p - 1)]?) c7
                simp only [List.getElem?_drop] at h
                rw [show k + p - 1 + (i - (k + p - 1)) = i by omega] at h
                rw [List.getD_eq_getElem?_getD, List.getD_eq_getElem?_getD, h]
              have f2 : ((k : Int) + (p : Int)).toNat = k + p := by omega
              have f3 : ((k : Int) + ((p : Int) - 1)).toNat = k + p - 1 := by omega
              have f4 : (a : Int).toNat = a := by omega
              simp only [f2, f3, f4]
              rw [at_ (k + p) (by omega) 0, at_ (k + p - 1) (Nat.le_refl _) 0]
              have hst : ddU xs (k + p + 1) = ddU xs (k + p) ++ if xs.getD (k + p) 0 = xs.getD (k + p - 1) 0 then [] else [xs.getD (k + p) 0] := by
                rw [ddU]
                by_cases h : xs.getD (k + p) 0 = xs.getD (k + p - 1) 0
                · rw [if_pos ⟨by omega, h⟩, if_pos h]
                · rw [if_neg (fun q => h q.2), if_neg h]
              refine fun _ => ⟨fun hlt2 => ⟨⟨by omega, by omega⟩, fun _ => ⟨⟨by omega, by omega⟩, fun _ => ⟨⟨by omega, by omega⟩, ⟨by omega, by omega⟩, fun _ => ⟨⟨by omega, by omega⟩, fun _ => ⟨fun hne => ⟨⟨by omega, by omega⟩, fun _ => ⟨⟨by omega, by omega⟩, fun _ => ⟨⟨by omega, by omega⟩, fun _ => ⟨⟨by omega, by omega⟩, ⟨by omega, by omega⟩, ⟨by omega, by omega⟩, ?_⟩⟩⟩⟩, fun heq2 => ⟨⟨by omega, by omega⟩, ?_⟩⟩⟩⟩⟩⟩, fun hge2 => ?_⟩
              · rw [if_neg hne] at hst
                refine fin_lp ⟨(a + 1, p + 1, R.set a (xs.getD (k + p) 0)), by dsimp only; omega, by dsimp only; omega, by dsimp only; omega, by dsimp only; omega, by dsimp only; rw [List.length_set]; exact c5, ?_, ?_⟩ ?_ (by dsimp only; omega)
                · dsimp only
                  rw [← Nat.add_assoc, hst, ← c6, List.take_succ_eq_append_getElem (by rw [List.length_set]; omega), List.take_set_of_le (Nat.le_refl _), List.getElem_set_self]
                · dsimp only
                  rw [List.drop_set_of_lt (by omega)]
                  have := congrArg (List.drop 1) c7
                  rw [List.drop_drop, List.drop_drop, show k + p - 1 + 1 = k + (p + 1) - 1 by omega] at this
                  exact this
                · simp only [go_sem, Prod.eta, Option.isSome_none, Option.isSome_some, Int.toNat_zero, Nat.reduceAdd, Nat.reduceMul, Nat.reduceSub, Nat.reduceEqDiff, Nat.reduceLT, Nat.reduceLeDiff, Nat.reduceShiftRight, Nat.reduceMod, Nat.reduceBEq, reduceCtorEq, reduceIte, reduceDIte, Int.reduceNeg]
                  and_intros <;> first | rfl | omega
              · rw [if_pos (by omega)] at hst
                refine fin_lp ⟨(a, p + 1, R), by dsimp only; omega, by dsimp only; omega, by dsimp only; omega, by dsimp only; omega, c5, ?_, ?_⟩ ?_ (by dsimp only; omega)
                · dsimp only
                  rw [← Nat.add_assoc, hst, List.append_nil, c6]
                · dsimp only
                  have := congrArg (List.drop 1) c7
                  rw [List.drop_drop, List.drop_drop, show k + p - 1 + 1 = k + (p + 1) - 1 by omega] at this
                  exact this
                · simp only [go_sem, Prod.eta, Option.isSome_none, Option.isSome_some, Int.toNat_zero, Nat.reduceAdd, Nat.reduceMul, Nat.reduceSub, Nat.reduceEqDiff, Nat.reduceLT, Nat.reduceLeDiff, Nat.reduceShiftRight, Nat.reduceMod, Nat.reduceBEq, reduceCtorEq, reduceIte, reduceDIte, Int.reduceNeg]
                  and_intros <;> first | rfl | omega
              · have hp : k + p = xs.length := by omega
                have g3 : ((R.length : Int) - (a : Int)).toNat = R.length - a := by omega
                have g4 : (a + (R.length - a) ≤ R.length) = True := by rw [eq_iff_iff, iff_true]; omega
                refine ⟨⟨by omega, by omega, by omega⟩, ?_⟩
                rw [g3]
                (simp -implicitDefEqProofs only [go_sem, Prod.eta, Option.isSome_none, Option.isSome_some, Int.toNat_zero, Nat.reduceAdd, Nat.reduceMul, Nat.reduceSub, Nat.reduceEqDiff, Nat.reduceLT, Nat.reduceLeDiff, Nat.reduceShiftRight, Nat.reduceMod, Nat.reduceBEq, reduceCtorEq, reduceIte, reduceDIte, Int.reduceNeg, Bool.not_eq_true', Bool.not_eq_false', Bool.or_eq_true, Bool.or_eq_false_iff, Bool.and_eq_true, Bool.and_eq_false_iff, decide_eq_true_eq, decide_eq_false_iff_not, Classical.not_not, not_or, maxLen, con56, hT, hG, hk, hK, Try.results56, g4]); (try simp (disch := decide +kernel) only [drawn, true_and, and_true])
                have e5 : (R.take a).length = a := by rw [List.length_take]; omega
                refine ⟨⟨by omega, by rw [List.length_append, e5]; omega⟩, ?_⟩
                rw [show (a : Int).toNat = a by omega, List.take_append_of_le_length (by omega), List.take_of_length_le (by omega), c6, hp]
                rfl
          · refine ⟨⟨by omega, by omega⟩, ?_⟩
            refine fin_lp ⟨k + 1, by omega, by omega, ?_⟩ ?_ (by dsimp only; omega)
            · rw [ddU, f1 k hkl, f1 (k - 1) (by omega), if_neg (fun q => hne q.2), hk3, List.take_succ_eq_append_getElem hkl]
            · simp only [go_sem, Prod.eta, Option.isSome_none, Option.isSome_some, Int.toNat_zero, Nat.reduceAdd, Nat.reduceMul, Nat.reduceSub, Nat.reduceEqDiff, Nat.reduceLT, Nat.reduceLeDiff, Nat.reduceShiftRight, Nat.reduceMod, Nat.reduceBEq, reduceCtorEq, reduceIte, reduceDIte, Int.reduceNeg]
              and_intros <;> first | rfl | omega
        · have : k = xs.length := by omega
          subst this
          unfold compV
          rw [hk3, List.take_length])


def con57 : Con := { ps := [.d false (.sl (.pair (.pair .str (.pair (.int .i64) (.pair .str (.int .i64)))) (.pair .str (.pair .str (.pair (.int .i64) (.pair (.int .i64) (.int .i64)))))))], rs := [.o 54 (.pair (.pair .str (.pair (.int .i64) (.pair .str (.int .i64)))) (.pair .str (.pair .str (.pair (.int .i64) (.pair (.int .i64) (.int .i64))))))], pre := fun (x : List Svc × Unit) => x.1.length ≤ 1000, out := fun (x : List Svc × Unit) => (x.1, ()), nw := id }
theorem c57 : CtrOk Try.prog 57 con57.ctr :=
  con_sound (G := ⟨[], [], [], []⟩) tab_ok EnvOk.nil rfl Try.func57 rfl con57 21 (by kernel_rfl) (by decide) (by decide) rfl (by decide) rfl (by
    rintro ⟨(xs : List Svc), _⟩ hpre hwf X hT hG hk hK
    have hl : xs.length ≤ 1000 := hpre
    (simp -implicitDefEqProofs only [go_sem, Prod.eta, Option.isSome_none, Option.isSome_some, Int.toNat_zero, Nat.reduceAdd, Nat.reduceMul, Nat.reduceSub, Nat.reduceEqDiff, Nat.reduceLT, Nat.reduceLeDiff, Nat.reduceShiftRight, Nat.reduceMod, Nat.reduceBEq, reduceCtorEq, reduceIte, reduceDIte, Int.reduceNeg, Bool.not_eq_true', Bool.not_eq_false', Bool.or_eq_true, Bool.or_eq_false_iff, Bool.and_eq_true, Bool.and_eq_false_iff, decide_eq_true_eq, decide_eq_false_iff_not, Classical.not_not, not_or, maxLen, con57, hT, hG, hk, hK, Try.results57] at hwf ⊢); (try simp (disch := decide +kernel) only [drawn, true_and, and_true])
    refine fun a ha => ⟨fun h => ?_, fun _ => by omega⟩
    exact (List.eq_nil_of_length_eq_zero (ha h)).symm)
end Go.Proofs.Ytjeinbfnbcempaa
