/- Iterators over slices: what a seat shows of their run; what they are gone over as. -/
import Derived.Test.YthiddcobegnokaaEvSimp
import Derived.RangeFuncBox
import Derived.Shelf.Abstract
import Derived.RangeFuncLeaves
import Derived.WalkKit
import Derived.OwnWalkIn
import Derived.TacticsInMore
import Derived.LoopNIn
import Derived.LoopIn
import Derived.Test.YthiddcobegnokaaProg
import Derived.Test.YthiddcobegnokaaEvSortToC
set_option linter.unusedSimpArgs false
set_option linter.unusedVariables false
namespace Go.Ev
open Go.RowKit

/-- The values of a round: elements' cells, the length, the round. -/
abbrev EncSl := Nat → (Nat → List Value) → Nat → Array Value
def encValues (ag : Bool) : EncSl := fun _ cs j => #[mkV ag (cs j)]
def encAll (ag : Bool) : EncSl := fun _ cs j => #[.int .i64 (j : Int), mkV ag (cs j)]
def encBack (ag : Bool) : EncSl := fun len cs j => #[.int .i64 ((len : Int) - 1 - j), mkV ag (cs (len - 1 - j))]

def RunsSl (P : Program) (f : Nat) (n : Nat) (y : EncSl) : Prop :=
  ∀ (l Bs : Nat) (a : Option Addr) (len cap : Nat) (cs : Nat → List Value) (bs : List Nat) (J Jx : List Nat → World → Prop), len ≤ maxLen → (∀ k, (cs k).length = n) → Bs ∈ bs → (0 < len → ∃ b off, a = some ⟨b, off, none⟩ ∧ b ∈ bs) →
    (∀ (pre : List Nat) (j : Nat) (W : World), Pfx (fun q => q = List.range len) (pre ++ [j]) → J pre W → YieldAt Fence.wide 1 P l (y len cs j) W fun e W' =>
      (e = .returned (.bool true) ∧ J (pre ++ [j]) W' ∧ KpB bs W W' ∧ KeepN W W') ∨ (e = .returned (.bool false) ∧ Jx (pre ++ [j]) W')) →
    ∀ W : World, W.cell? ⟨Bs, 0, none⟩ = some (.slice a len cap) → (∀ b off, a = some ⟨b, off, none⟩ → ∀ k, k < len → ∀ i u, (cs k)[i]? = some u → W.cell? ⟨b, off + k * n + i, none⟩ = some u) → J [] W →
    CallsIn Fence.wide 2 P f #[.func (.yield l) #[] #[], .pointer (some ⟨Bs, 0, none⟩)] W fun e W' => (∃ v, e = .returned v) ∧
      ((∃ ys, ys = List.range len ∧ J ys W') ∨ (∃ pre, Pfx (fun q => q = List.range len) pre ∧ Jx pre W'))

theorem pfx_range {k len : Nat} (h : k < len) : Pfx (fun q => q = List.range len) (List.range k ++ [k]) := by
  refine ⟨(List.range len).drop (k + 1), ?_⟩
  rw [← List.range_succ]
  have : List.range (k + 1) = (List.range len).take (k + 1) := by rw [List.take_range]; congr 1; omega
  rw [this, List.take_append_drop]
theorem pfx_at {len j : Nat} {p : List Nat} (h : Pfx (fun q => q = List.range len) (p ++ [j])) : p = List.range j ∧ j < len := by
  obtain ⟨q, h⟩ := h
  have hl := congrArg List.length h
  simp only [List.length_append, List.length_cons, List.length_nil, List.length_range] at hl
  have e1 : p.length < len := by omega
  have hj : (List.range len)[p.length]? = some j := by rw [← h]; simp
  rw [List.getElem?_range e1] at hj
  cases hj
  refine ⟨?_, e1⟩
  have e2 := congrArg (List.take p.length) h
  simp only [List.append_assoc, List.take_left, List.take_range] at e2
  rw [Nat.min_eq_left (by omega)] at e2
  exact e2
theorem wrap64_sub1 {len : Nat} (h : len ≤ maxLen) : wrap64 ((len : Int) - 1) = (len : Int) - 1 := by
  unfold maxLen at h; unfold wrap64; omega
theorem wrap64_back {len k : Nat} (h : len ≤ maxLen) (hk : k ≤ len) : Value.int .i64 (wrap64 ((len : Int) - 1 - k - 1)) = .int .i64 ((len : Int) - 1 - ((k + 1 : Nat) : Int)) := by
  unfold maxLen at h; congr 1; unfold wrap64; omega
theorem wrap64_fwd {len k : Nat} (h : len ≤ maxLen) (hk : k < len) : Value.int .i64 (wrap64 ((k : Int) + 1)) = .int .i64 (((k + 1 : Nat) : Int)) := by
  unfold maxLen at h; congr 1; unfold wrap64; omega
theorem list_1 {α : Type} {l : List α} (h : l.length = 1) : ∃ c0, l = [c0] := by
  match l, h with | [c0], _ => exact ⟨c0, rfl⟩

/-- How a slice is gone over. -/
inductive SlK where
  | back | vals | all
def SlK.enc (ag : Bool) : SlK → EncSl
  | .back => encBack ag
  | .vals => encValues ag
  | .all => encAll ag
def SlK.ar : SlK → Nat
  | .vals => 1
  | _ => 2
/-- The element that a round is handed. -/
def SlK.ix (len j : Nat) : SlK → Nat
  | .back => len - 1 - j
  | _ => j
def SlK.y (t : Ty) (ag : Bool) (xs : List t.den) (j : Nat) : SlK → List AV
  | .back => [.one (.int .i64 ((xs.length : Int) - 1 - j)), avOf ag (expl t (xs.getD (xs.length - 1 - j) t.dflt))]
  | .vals => [avOf ag (expl t (xs.getD j t.dflt))]
  | .all => [.one (.int .i64 (j : Int)), avOf ag (expl t (xs.getD j t.dflt))]
def slG (K : SlK) (t : Ty) (ag : Bool) (u : Heap) (xs : List t.den) : ItE :=
  ⟨True, fun j => K.y t ag xs j, K.ar, u, fun q => q = List.range xs.length, fun j => j < xs.length ∧ Wf t (xs.getD (K.ix xs.length j) t.dflt)⟩
def itSlO (K : SlK) (t : Ty) (ag : Bool) (u : Heap) : Option (List t.den) → ItE
  | some xs => slG K t ag u xs
  | none => ItE.bad
/-- A closure over the box of a slice. -/
def itSl (K : SlK) (e : TypeId) (t : Ty) (ag : Bool) : ItC := fun caps m => match caps with
  | [.loc id 0] => (match m id with
    | .cells e' [c] => if e' = e then itSlO K t ag ((rowsOf [c]).map (settle m) ++ [(id, .dead)]) (view m t c) else ItE.bad
    | _ => ItE.bad)
  | _ => ItE.bad

attribute [go_sem] slG SlK.y SlK.ar SlK.ix
theorem repCs_one {x : Rx} {c : C1} {vs : List Value} (h : repCs x [c] vs) : ∃ v, vs = [v] ∧ repC x c v := by
  obtain ⟨v, r, e, h1, h2⟩ := repCs_cons.1 h
  rw [repCs_nil.1 h2] at e
  exact ⟨v, e, h1⟩
theorem repAs_one {x : Rx} {a : AV} {v : Value} (h : repA x a v) : repAs x [a] [v] := by
  unfold repAs; exact ⟨v, [], rfl, h, by unfold repAs; rfl⟩
theorem repAs_two {x : Rx} {a b : AV} {v u : Value} (h : repA x a v) (k : repA x b u) : repAs x [a, b] [v, u] := by
  unfold repAs; exact ⟨v, [u], rfl, h, repAs_one k⟩
theorem roAll_cut {α : Type} {r : α → List Value → Prop} {n : Nat} (hn : ∀ x c, r x c → c.length = n) {xs : List α} {vs : List Value} (h : roAll r xs vs) {i : Nat} (hi : i < xs.length) : r xs[i] ((vs.drop (i * n)).take n) := by
  obtain ⟨pre, c, post, e, hl, hc, _, _⟩ := roAll_at hn h hi
  rw [e, ← hl, List.drop_left, ← hn _ _ hc, List.take_left]
  exact hc

theorem itSl_ok {P : Program} {f : FuncId} {K : SlK} {e : TypeId} {t : Ty} {ag : Bool} (hrun : RunsSl P f t.n (K.enc ag)) (hn : 0 < t.n) (h1 : ag = false → t.n = 1) : ItOk P f (itSl K e t ag) := by
  intro cx σ N m w caps lb h hcaps hpre
  unfold itSl at hpre ⊢
  split at hpre
  case h_2 => exact hpre.elim
  rename_i id
  split at hpre
  case h_2 => exact hpre.elim
  rename_i e' c hmid
  split at hpre
  case isFalse => exact hpre.elim
  rename_i he
  subst he
  rw [if_pos rfl]
  cases hv : view m t c with
  | none => rw [hv] at hpre; exact hpre.elim
  | some xs =>
    simp only [itSlO, slG]
    obtain ⟨v, rfl, hr⟩ := repCs_one hcaps
    unfold repC at hr
    obtain ⟨hNid, b0, hσ, rfl⟩ := hr
    have hσ : σ id = .pointer (some ⟨b0, 0, none⟩) := hσ
    have hb := h.blk id
    rw [hmid] at hb
    obtain ⟨b1, vs, e1, e2, e3, _⟩ := hb
    have hb01 : b1 = b0 := by have e1 : σ id = .pointer (some ⟨b1, 0, none⟩) := e1; rw [hσ] at e1; cases e1; rfl
    subst hb01
    obtain ⟨u, rfl, hu⟩ := repCs_one e3
    have hcell0 : w.cell? ⟨b1, 0, none⟩ = some u := by
      have e2 : w.heap[b1]? = some (.cells #[u] e' (0, 0)) := e2
      simp [World.cell?, e2]
    -- the box is given away
    obtain ⟨hM1, k1⟩ := h.settles (rowsOf [c])
    obtain ⟨hM2, k2⟩ := hM1.drop id
    have hupd : updM (updM m ((rowsOf [c]).map (settle m))) [(id, .dead)] = updM m ((rowsOf [c]).map (settle m) ++ [(id, .dead)]) := (updM_append ..).symm
    rw [hupd] at hM2 k2
    have hO1 : ∀ b, Owned cx σ (updM m ((rowsOf [c]).map (settle m) ++ [(id, .dead)])) b → Owned cx σ (updM m ((rowsOf [c]).map (settle m))) b := by
      rintro b (hf | ⟨i, h1, h2⟩)
      · exact .inl hf
      · rw [← hupd] at h1
        by_cases ei : id = i
        · subst ei; simp [updM, own] at h1
        · simp only [updM, if_neg ei] at h1
          exact .inr ⟨i, h1, h2⟩
    have hro : ro w (Owned cx σ (updM m ((rowsOf [c]).map (settle m) ++ [(id, .dead)]))) (.sl t) xs [u] :=
      data_in h (rowsOf [c]) ⟨w, Owned cx σ (updM m ((rowsOf [c]).map (settle m) ++ [(id, .dead)])), σ, N⟩ rfl hO1 (t := .sl t) (cs := [c]) (vs := [u]) (by simpa [impl, implL] using hv) (fun i hi => hi) e3
    have hbox : ¬ Owned cx σ (updM m ((rowsOf [c]).map (settle m) ++ [(id, .dead)])) b1 := by
      have hbid : hb (σ id) b1 := by rw [hσ]; exact .inl rfl
      rintro (hf | ⟨i, h3, h4⟩)
      · exact h.notF id b1 (by rw [hmid]; rfl) hbid hf
      · rw [← hupd] at h3
        by_cases ei : id = i
        · subst ei; simp [updM, own] at h3
        · simp only [updM, if_neg ei] at h3
          have h5 : own (m i) = true := by
            rw [updM_settle m _ m i (fun i _ => .inl rfl)] at h3
            split at h3
            · exact settle_not_own m i h3
            · exact h3
          exact ei (h.inj id i b1 (by rw [hmid]; rfl) h5 hbid h4)
    have hwf := ro_wf (.sl t) xs [u] hro
    obtain ⟨a, len, cap, hu2, hlen, hlc, hcm, hdat⟩ := hro
    cases hu2
    subst hlen
    have hmx : xs.length ≤ maxLen := Nat.le_trans hlc hcm
    -- the elements' cells
    obtain ⟨flat, hflat⟩ : ∃ flat : List Value, 0 < xs.length → ∃ b o, a = some ⟨b, o, none⟩ ∧ roAll (ro w (Owned cx σ (updM m ((rowsOf [c]).map (settle m) ++ [(id, .dead)]))) t) xs flat ∧ CellsAt w (Owned cx σ (updM m ((rowsOf [c]).map (settle m) ++ [(id, .dead)]))) b o flat := by
      rcases hdat with h0 | ⟨b, o, flat, q1, q2, q3⟩
      · exact ⟨[], fun hp => by omega⟩
      · exact ⟨flat, fun _ => ⟨b, o, q1, q2, q3⟩⟩
    let cs : Nat → List Value := fun k => if k < xs.length then (flat.drop (k * t.n)).take t.n else List.replicate t.n undef
    have hel : ∀ k (hk : k < xs.length), ro w (Owned cx σ (updM m ((rowsOf [c]).map (settle m) ++ [(id, .dead)]))) t xs[k] (cs k) := fun k hk => by
      obtain ⟨b, o, q1, q2, q3⟩ := hflat (by omega)
      simp only [cs, if_pos hk]
      exact roAll_cut (fun x c hx => ro_len t x c hx) q2 hk
    have hcs : ∀ k, (cs k).length = t.n := fun k => by
      by_cases hk : k < xs.length
      · exact ro_len t _ _ (hel k hk)
      · simp only [cs, if_neg hk, List.length_replicate]
    have hget : ∀ k (hk : k < xs.length), xs.getD k t.dflt = xs[k] := fun k hk => by simp [hk]
    have hixl : ∀ j, j < xs.length → K.ix xs.length j < xs.length := fun j hj => by cases K <;> simp only [SlK.ix] <;> omega
    refine ⟨K.enc ag xs.length cs, b1 :: (match a with | some ad => if 0 < xs.length then [ad.block] else [] | none => []), hM2, ⟨k1.k.trans k2.k (Nat.le_refl _), fun id hid => rfl, fun id hid => hid⟩, fun p j hp => ?_, fun b hb => ?_, ?_⟩
    · obtain ⟨_, hj⟩ := pfx_at hp
      have hix := hixl j hj
      refine ⟨⟨hj, ?_⟩, by cases K <;> rfl, fun y hy => ?_⟩
      · rw [hget _ hix]
        exact ro_wf t _ _ (hel _ hix)
      · have hE : ∀ k (hk : k < xs.length), repA y (avOf ag (expl t (xs.getD k t.dflt))) (mkV ag (cs k)) := fun k hk => by
          rw [hget k hk]
          exact avOf_mkV (ro_keep hy t _ _ (hel k hk)) h1
        have hI : ∀ z : Int, InR .i64 z → repA y (.one (.int .i64 z)) (.int .i64 z) := fun z hz => repA_int hz
        unfold maxLen at hmx
        cases K with
        | back => exact repAs_two (hI _ (by unfold InR IntKind.min IntKind.max; simp only [IntKind.signed, IntKind.bits]; constructor <;> simp <;> omega)) (hE _ hix)
        | vals => exact repAs_one (hE _ hix)
        | all => exact repAs_two (hI _ (by unfold InR IntKind.min IntKind.max; simp only [IntKind.signed, IntKind.bits]; constructor <;> simp <;> omega)) (hE _ hix)
    · rcases List.mem_cons.1 hb with rfl | hb
      · exact ⟨(Array.getElem?_eq_some_iff.1 e2).1, hbox⟩
      · split at hb
        · split at hb
          · rename_i ad hp
            obtain ⟨b', o', q1, q2, q3⟩ := hflat hp
            cases q1
            simp only [List.mem_singleton] at hb
            subst hb
            have hl := hcs 0
            have h0 : (cs 0)[0]? = some ((cs 0)[0]'(by omega)) := List.getElem?_eq_getElem (by omega)
            simp only [cs, if_pos hp, Nat.zero_mul, List.drop_zero] at h0
            rw [List.getElem?_take_of_lt hn] at h0
            obtain ⟨g1, g2⟩ := q3 0 _ h0
            exact ⟨block_lt_of_cell g2, g1⟩
          · cases hb
        · cases hb
    · intro l J Jx W hW hJ hJx hY hj0
      refine hrun l b1 a xs.length cap cs _ J Jx hmx hcs List.mem_cons_self (fun hp => ?_) hY W ?_ (fun b o hab k hk i u hu => ?_) hj0
      · obtain ⟨b', o', q1, _⟩ := hflat hp
        refine ⟨b', o', q1, ?_⟩
        subst q1
        simp [hp]
      · rw [hW.cell (p := ⟨b1, 0, none⟩) (Array.getElem?_eq_some_iff.1 e2).1]; exact hcell0
      · obtain ⟨b', o', q1, q2, q3⟩ := hflat (by omega)
        rw [hab] at q1
        cases q1
        simp only [cs, if_pos hk] at hu
        have hi : i < t.n := by
          have := (List.getElem?_eq_some_iff.1 hu).1
          simp only [List.length_take] at this; omega
        rw [List.getElem?_take_of_lt hi, List.getElem?_drop] at hu
        obtain ⟨g1, g2⟩ := q3 _ _ hu
        rw [show o + k * t.n + i = o + (k * t.n + i) by omega, hW.cell (p := ⟨b, o + (k * t.n + i), none⟩) (block_lt_of_cell g2)]
        exact g2
end Go.Ev

/- The run of slices.Backward's closure. -/
set_option linter.unusedSimpArgs false
set_option linter.unusedVariables false
namespace Go.Proofs.Ythiddcobegnokaa
open Go.Ev Go.RowKit Go.Shelf

attribute [local go_sem] Oper.semAt_some

theorem list_10_89 {l : List Value} (h : l.length = 10) : ∃ c0 c1 c2 c3 c4 c5 c6 c7 c8 c9, l = [c0, c1, c2, c3, c4, c5, c6, c7, c8, c9] := by
  match l, h with | [c0, c1, c2, c3, c4, c5, c6, c7, c8, c9], _ => exact ⟨c0, c1, c2, c3, c4, c5, c6, c7, c8, c9, rfl⟩

set_option maxRecDepth 100000 in
set_option maxHeartbeats 4000000 in
theorem run89 : RunsSl Try.prog 89 10 (encBack true) := by
  intro l Bs a len cap cs bs J Jx hm hcs hB hab hY W hBs hcell0 h0
  refine callsIn_of_wp Try.func89 rfl trivial ?_
  simp only [Try.ntmps89, List.size_toArray, List.length_cons, List.length_nil, Nat.reduceAdd, Nat.reduceSub, Array.replicate_succ, Array.replicate_zero, List.push_toArray, List.append_toArray, List.nil_append, List.cons_append]
  gi_wp2
  gi_loopw [3] (fun i wr => ∃ k : Nat, k ≤ len ∧ i = .int .i64 ((len : Int) - 1 - k) ∧ J (List.range k) wr ∧ KpB bs W wr) (fun i _ => (intOf i + 1).toNat)
  case atStart => exact ⟨0, Nat.zero_le _, by simp; try (rw [wrap64_sub1 hm]), h0, fun _ _ => rfl⟩
  case round =>
    obtain ⟨k, hk, rfl, hJs, hnx⟩ := hrel
    have hBs' : wr.cell? ⟨Bs, 0, none⟩ = some (.slice a len cap) := (World.cell?_of_block (a := ⟨Bs, 0, none⟩) (hnx Bs hB)).trans hBs
    by_cases hlt : k < len
    · obtain ⟨b, off, rfl, hb⟩ := hab (by omega)
      have hlen := hcs (len - 1 - k)
      have hcell : ∀ i u, (cs (len - 1 - k))[i]? = some u → wr.cell? ⟨b, off + (len - 1 - k) * 10 + i, none⟩ = some u := fun i u hu => (World.cell?_of_block (a := ⟨b, off + (len - 1 - k) * 10 + i, none⟩) (hnx b hb)).trans (hcell0 b off rfl (len - 1 - k) (by omega) i u hu)
      obtain ⟨fn, tmps, assign, body, hy, hR⟩ := hY (List.range k) k wr (pfx_range hlt) hJs
      unfold encBack at hy
      obtain ⟨c0, c1, c2, c3, c4, c5, c6, c7, c8, c9, hcse⟩ := list_10_89 hlen
      rw [hcse] at hcell hy
      have hc0 : wr.cell? ⟨b, off + (len - 1 - k) * 10, none⟩ = some c0 := hcell 0 c0 rfl
      have hc1 : wr.cell? ⟨b, off + (len - 1 - k) * 10 + 1, none⟩ = some c1 := hcell 1 c1 rfl
      have hc2 : wr.cell? ⟨b, off + (len - 1 - k) * 10 + 2, none⟩ = some c2 := hcell 2 c2 rfl
      have hc3 : wr.cell? ⟨b, off + (len - 1 - k) * 10 + 3, none⟩ = some c3 := hcell 3 c3 rfl
      have hc4 : wr.cell? ⟨b, off + (len - 1 - k) * 10 + 4, none⟩ = some c4 := hcell 4 c4 rfl
      have hc5 : wr.cell? ⟨b, off + (len - 1 - k) * 10 + 5, none⟩ = some c5 := hcell 5 c5 rfl
      have hc6 : wr.cell? ⟨b, off + (len - 1 - k) * 10 + 6, none⟩ = some c6 := hcell 6 c6 rfl
      have hc7 : wr.cell? ⟨b, off + (len - 1 - k) * 10 + 7, none⟩ = some c7 := hcell 7 c7 rfl
      have hc8 : wr.cell? ⟨b, off + (len - 1 - k) * 10 + 8, none⟩ = some c8 := hcell 8 c8 rfl
      have hc9 : wr.cell? ⟨b, off + (len - 1 - k) * 10 + 9, none⟩ = some c9 := hcell 9 c9 rfl
      simp only [mkV, if_true, if_false, Bool.false_eq_true, List.getD_cons_zero] at hy
      gi_wp2
      refine hR.mono ?_
      rintro e W3 (⟨rfl, hJ3, hk3, _⟩ | ⟨rfl, hJx3⟩)
      · gi_wp2
        go_roundw
        case rel => exact ⟨k + 1, by omega, wrap64_back hm hk, by rw [List.range_succ]; exact hJ3, fun bb h => (hk3 bb h).trans (hnx bb h)⟩
        case measure =>
          unfold maxLen at hm
          simp [intOf, wrap64]
          omega
      · gi_wp2
        refine bodyPost_ret (results_none rfl _ _ _) rfl ?_
        exact ⟨⟨_, rfl⟩, .inr ⟨_, pfx_range hlt, hJx3⟩⟩
    · obtain rfl : k = len := by omega
      gi_wp2
      go_end0
      exact ⟨⟨_, rfl⟩, .inl ⟨_, rfl, hJs⟩⟩


end Go.Proofs.Ythiddcobegnokaa

/- The contracts of slices.Compact, slices.Backward, placement. -/
set_option linter.unusedSimpArgs false
set_option linter.unusedVariables false
set_option maxRecDepth 100000
set_option maxHeartbeats 4000000
namespace Go.Proofs.Ythiddcobegnokaa
open Go.Ev

/-- A list without the elements that are as the one before. -/
def ddU (xs : List Int) : Nat → List Int
  | 0 => []
  | i + 1 => ddU xs i ++ if i ≠ 0 ∧ xs.getD i 0 = xs.getD (i - 1) 0 then [] else [xs.getD i 0]
def compV (xs : List Int) : List Int := ddU xs xs.length
theorem ddU_len (xs : List Int) : ∀ i, (ddU xs i).length ≤ i
  | 0 => Nat.le_refl _
  | i + 1 => by
    have := ddU_len xs i
    rw [ddU, List.length_append]
    split <;> simp <;> omega
def con73 : Con := { ps := [.oc 3 (.int .i64)], rs := [.o 3 (.int .i64)], pre := fun x => True, out := fun x => (compV x.1, ()), nw := id }
theorem c73 : CtrOk Try.prog 73 con73.ctr :=
  con_sound (G := ⟨[], [], [(9, 2), (28, 1), (56, 1), (59, 2), (60, 2)], []⟩) tab_ok EnvOk.nil rfl Try.func73 rfl con73 17596514574653 (by kernel_rfl) (by decide) (by decide) rfl (by decide) rfl (by
    rintro ⟨(xs : List Int), _⟩ hpre hwf X hT hG hk hK
    (simp -implicitDefEqProofs only [go_sem, Prod.eta, Option.isSome_none, Option.isSome_some, Int.toNat_zero, Nat.reduceAdd, Nat.reduceMul, Nat.reduceSub, Nat.reduceEqDiff, Nat.reduceLT, Nat.reduceLeDiff, Nat.reduceShiftRight, Nat.reduceMod, Nat.reduceBEq, reduceCtorEq, reduceIte, reduceDIte, Int.reduceNeg, Bool.not_eq_true', Bool.not_eq_false', Bool.or_eq_true, Bool.or_eq_false_iff, Bool.and_eq_true, Bool.and_eq_false_iff, decide_eq_true_eq, decide_eq_false_iff_not, Classical.not_not, not_or, maxLen, con73, hT, hG, hk, hK, Try.results73] at hwf ⊢); (try simp (disch := decide +kernel) only [drawn, true_and, and_true])
    refine fun hln => ⟨fun h2 => ?_, fun h2 => ?_⟩
    · match xs, h2 with
      | [], _ => rfl
      | [a], _ => rfl
      | a :: b :: l, h2 => simp at h2; omega
    · refine evk_loop ⟨{ k : Nat // 1 ≤ k ∧ k ≤ xs.length ∧ ddU xs k = xs.take k }, 1000, fun k => [(0, .one (.row 0)), (3, .one (.int .i64 k.1))], fun k => [(0, .row 3 (.int .i64) xs)], fun k => xs.length - k.1⟩ ⟨1, by omega, by omega, by simp [ddU]; match xs, h2 with | [], h2 => simp at h2 | a :: l, _ => rfl⟩ ?_ ?_
      · simp only [go_sem, Prod.eta, Option.isSome_none, Option.isSome_some, Int.toNat_zero, Nat.reduceAdd, Nat.reduceMul, Nat.reduceSub, Nat.reduceEqDiff, Nat.reduceLT, Nat.reduceLeDiff, Nat.reduceShiftRight, Nat.reduceMod, Nat.reduceBEq, reduceCtorEq, reduceIte, reduceDIte, Int.reduceNeg]
        rfl
      · rintro ⟨k, (hk1 : 1 ≤ k), (hk2 : k ≤ xs.length), (hk3 : ddU xs k = xs.take k)⟩
        (simp -implicitDefEqProofs only [go_sem, Prod.eta, Option.isSome_none, Option.isSome_some, Int.toNat_zero, Nat.reduceAdd, Nat.reduceMul, Nat.reduceSub, Nat.reduceEqDiff, Nat.reduceLT, Nat.reduceLeDiff, Nat.reduceShiftRight, Nat.reduceMod, Nat.reduceBEq, reduceCtorEq, reduceIte, reduceDIte, Int.reduceNeg, Bool.not_eq_true', Bool.not_eq_false', Bool.or_eq_true, Bool.or_eq_false_iff, Bool.and_eq_true, Bool.and_eq_false_iff, decide_eq_true_eq, decide_eq_false_iff_not, Classical.not_not, not_or, maxLen, con73, hT, hG, hk, hK, Try.results73]); (try simp (disch := decide +kernel) only [drawn, true_and, and_true])
        refine fun _ => ⟨fun hlt => ?_, fun hge => ?_⟩
        · have hkl : k < xs.length := by omega
          have e1 : ∀ z, xs.getD (k : Int).toNat z = xs[k] := fun z => by simp [hkl]
          have e2 : ∀ z, xs.getD ((k : Int) - 1).toNat z = xs[k - 1] := fun z => by
            rw [show ((k : Int) - 1).toNat = k - 1 by omega]; simp [show k - 1 < xs.length by omega]
          have f1 : ∀ i (h : i < xs.length), xs.getD i 0 = xs[i] := fun i h => by simp [h]
          simp only [e1, e2]
          refine ⟨⟨by omega, by omega⟩, fun _ => ⟨⟨by omega, by omega⟩, fun _ => ⟨⟨by omega, by omega⟩, ⟨by omega, by omega⟩, fun _ => ⟨⟨by omega, by omega⟩, fun _ => ⟨fun heq => ⟨⟨by omega, by omega, by omega⟩, ?_⟩, fun hne => ?_⟩⟩⟩⟩⟩
          · have b0 : ddU xs (k + 1) = xs.take k := by
              rw [ddU, f1 k hkl, f1 (k - 1) (by omega), if_pos ⟨by omega, heq⟩, List.append_nil, hk3]
            have g1 : (k : Int).toNat = k := by omega
            have g2 : ((xs.length : Int) - (k : Int)).toNat = xs.length - k := by omega
            rw [g1, g2]
            refine evk_loop ⟨{ q : Nat × Nat × List Int // k ≤ q.1 ∧ q.1 ≤ k + q.2.1 - 1 ∧ 1 ≤ q.2.1 ∧ q.2.1 ≤ xs.length - k ∧ q.2.2.length = xs.length ∧ q.2.2.take q.1 = ddU xs (k + q.2.1) ∧ q.2.2.drop (k + q.2.1 - 1) = xs.drop (k + q.2.1 - 1) }, 2000, fun q => [(0, .one (.row 0)), (3, .one (.int .i64 q.1.1)), (4, .one (.win 0 1 k (xs.length - k))), (5, .one (.int .i64 q.1.2.1))], fun q => [(0, .row 3 (.int .i64) q.1.2.2)], fun q => xs.length - q.1.2.1⟩ ⟨(k, 1, xs), by dsimp only; omega, by dsimp only; omega, by dsimp only; omega, by dsimp only; omega, rfl, b0.symm, rfl⟩ ?_ ?_
            · simp only [go_sem, Prod.eta, Option.isSome_none, Option.isSome_some, Int.toNat_zero, Nat.reduceAdd, Nat.reduceMul, Nat.reduceSub, Nat.reduceEqDiff, Nat.reduceLT, Nat.reduceLeDiff, Nat.reduceShiftRight, Nat.reduceMod, Nat.reduceBEq, reduceCtorEq, reduceIte, reduceDIte, Int.reduceNeg]
              rfl
            · rintro ⟨⟨a, p, R⟩, (c1 : k ≤ a), (c2 : a ≤ k + p - 1), (c3 : 1 ≤ p), (c4 : p ≤ xs.length - k), (c5 : R.length = xs.length), (c6 : R.take a = ddU xs (k + p)), (c7 : R.drop (k + p - 1) = xs.drop (k + p - 1))⟩
              have hw : (k + (xs.length - k) ≤ R.length) = True := by rw [eq_iff_iff, iff_true]; omega
              (simp -implicitDefEqProofs only [go_sem, Prod.eta, Option.isSome_none, Option.isSome_some, Int.toNat_zero, Nat.reduceAdd, Nat.reduceMul, Nat.reduceSub, Nat.reduceEqDiff, Nat.reduceLT, Nat.reduceLeDiff, Nat.reduceShiftRight, Nat.reduceMod, Nat.reduceBEq, reduceCtorEq, reduceIte, reduceDIte, Int.reduceNeg, Bool.not_eq_true', Bool.not_eq_false', Bool.or_eq_true, Bool.or_eq_false_iff, Bool.and_eq_true, Bool.and_eq_false_iff, decide_eq_true_eq, decide_eq_false_iff_not, Classical.not_not, not_or, maxLen, con73, hT, hG, hk, hK, Try.results73, hw]); (try simp (disch := decide +kernel) only [drawn, true_and, and_true])
              have at_ : ∀ i, k + p - 1 ≤ i → ∀ z, R.getD i z = xs.getD i z := fun i hi z => by
                have h := congrArg (fun l : List Int => l[i - (k + p - 1)]?) c7
                simp only [List.getElem?_drop] at h
                rw [show k + p - 1 + (i - (k + p - 1)) = i by omega] at h
                rw [List.getD_eq_getElem?_getD, List.getD_eq_getElem?_getD, h]
              have f2 : ((k : Int) + (p : Int)).toNat = k + p := by omega
              have f3 : ((k : Int) + ((p : Int) - 1)).toNat = k + p - 1 := by omega
              have f4 : (a : Int).toNat = a := by omega
              simp only [f2, f3, f4]
              rw [at_ (k + p) (by omega) 0, at_ (k + p - 1) (Nat.le_refl _) 0]
              have hst : ddU xs (k + p + 1) = ddU xs (k + p) ++ if xs.getD (k + p) 0 = xs.getD (k + p - 1) 0 then [] else [xs.getD (k + p) 0] := by
                rw [ddU]
                by_cases h : xs.getD (k + p) 0 = xs.getD (k + p - 1) 0
                · rw [if_pos ⟨by omega, h⟩, if_pos h]
                · rw [if_neg (fun q => h q.2), if_neg h]
              refine fun _ => ⟨fun hlt2 => ⟨⟨by omega, by omega⟩, fun _ => ⟨⟨by omega, by omega⟩, fun _ => ⟨⟨by omega, by omega⟩, ⟨by omega, by omega⟩, fun _ => ⟨⟨by omega, by omega⟩, fun _ => ⟨fun hne => ⟨⟨by omega, by omega⟩, fun _ => ⟨⟨by omega, by omega⟩, fun _ => ⟨⟨by omega, by omega⟩, fun _ => ⟨⟨by omega, by omega⟩, ⟨by omega, by omega⟩, ⟨by omega, by omega⟩, ?_⟩⟩⟩⟩, fun heq2 => ⟨⟨by omega, by omega⟩, ?_⟩⟩⟩⟩⟩⟩, fun hge2 => ?_⟩
              · rw [if_neg hne] at hst
                refine fin_lp ⟨(a + 1, p + 1, R.set a (xs.getD (k + p) 0)), by dsimp only; omega, by dsimp only; omega, by dsimp only; omega, by dsimp only; omega, by dsimp only; rw [List.length_set]; exact c5, ?_, ?_⟩ ?_ (by dsimp only; omega)
                · dsimp only
                  rw [← Nat.add_assoc, hst, ← c6, List.take_succ_eq_append_getElem (by rw [List.length_set]; omega), List.take_set_of_le (Nat.le_refl _), List.getElem_set_self]
                · dsimp only
                  rw [List.drop_set_of_lt (by omega)]
                  have := congrArg (List.drop 1) c7
                  rw [List.drop_drop, List.drop_drop, show k + p - 1 + 1 = k + (p + 1) - 1 by omega] at this
                  exact this
                · simp only [go_sem, Prod.eta, Option.isSome_none, Option.isSome_some, Int.toNat_zero, Nat.reduceAdd, Nat.reduceMul, Nat.reduceSub, Nat.reduceEqDiff, Nat.reduceLT, Nat.reduceLeDiff, Nat.reduceShiftRight, Nat.reduceMod, Nat.reduceBEq, reduceCtorEq, reduceIte, reduceDIte, Int.reduceNeg]
                  and_intros <;> first | rfl | omega
              · rw [if_pos (by omega)] at hst
                refine fin_lp ⟨(a, p + 1, R), by dsimp only; omega, by dsimp only; omega, by dsimp only; omega, by dsimp only; omega, c5, ?_, ?_⟩ ?_ (by dsimp only; omega)
                · dsimp only
                  rw [← Nat.add_assoc, hst, List.append_nil, c6]
                · dsimp only
                  have := congrArg (List.drop 1) c7
                  rw [List.drop_drop, List.drop_drop, show k + p - 1 + 1 = k + (p + 1) - 1 by omega] at this
                  exact this
                · simp only [go_sem, Prod.eta, Option.isSome_none, Option.isSome_some, Int.toNat_zero, Nat.reduceAdd, Nat.reduceMul, Nat.reduceSub, Nat.reduceEqDiff, Nat.reduceLT, Nat.reduceLeDiff, Nat.reduceShiftRight, Nat.reduceMod, Nat.reduceBEq, reduceCtorEq, reduceIte, reduceDIte, Int.reduceNeg]
                  and_intros <;> first | rfl | omega
              · have hp : k + p = xs.length := by omega
                have g3 : ((R.length : Int) - (a : Int)).toNat = R.length - a := by omega
                have g4 : (a + (R.length - a) ≤ R.length) = True := by rw [eq_iff_iff, iff_true]; omega
                refine ⟨⟨by omega, by omega, by omega⟩, ?_⟩
                rw [g3]
                (simp -implicitDefEqProofs only [go_sem, Prod.eta, Option.isSome_none, Option.isSome_some, Int.toNat_zero, Nat.reduceAdd, Nat.reduceMul, Nat.reduceSub, Nat.reduceEqDiff, Nat.reduceLT, Nat.reduceLeDiff, Nat.reduceShiftRight, Nat.reduceMod, Nat.reduceBEq, reduceCtorEq, reduceIte, reduceDIte, Int.reduceNeg, Bool.not_eq_true', Bool.not_eq_false', Bool.or_eq_true, Bool.or_eq_false_iff, Bool.and_eq_true, Bool.and_eq_false_iff, decide_eq_true_eq, decide_eq_false_iff_not, Classical.not_not, not_or, maxLen, con73, hT, hG, hk, hK, Try.results73, g4]); (try simp (disch := decide +kernel) only [drawn, true_and, and_true])
                have e5 : (R.take a).length = a := by rw [List.length_take]; omega
                refine ⟨⟨by omega, by rw [List.length_append, e5]; omega⟩, ?_⟩
                rw [show (a : Int).toNat = a by omega, List.take_append_of_le_length (by omega), List.take_of_length_le (by omega), c6, hp]
                rfl
          · refine ⟨⟨by omega, by omega⟩, ?_⟩
            refine fin_lp ⟨k + 1, by omega, by omega, ?_⟩ ?_ (by dsimp only; omega)
            · rw [ddU, f1 k hkl, f1 (k - 1) (by omega), if_neg (fun q => hne q.2), hk3, List.take_succ_eq_append_getElem hkl]
            · simp only [go_sem, Prod.eta, Option.isSome_none, Option.isSome_some, Int.toNat_zero, Nat.reduceAdd, Nat.reduceMul, Nat.reduceSub, Nat.reduceEqDiff, Nat.reduceLT, Nat.reduceLeDiff, Nat.reduceShiftRight, Nat.reduceMod, Nat.reduceBEq, reduceCtorEq, reduceIte, reduceDIte, Int.reduceNeg]
              and_intros <;> first | rfl | omega
        · have : k = xs.length := by omega
          subst this
          unfold compV
          rw [hk3, List.take_length])

def it89 : ItC := itSl .back 22 (.pair (.int .i64) (.pair (.int .i64) (.pair (.int .i64) (.pair (.int .i64) (.pair (.int .i64) (.pair (.pair (.int .i64) (.pair (.int .i64) (.int .i64))) (.pair (.int .i64) (.int .i64)))))))) true
theorem i89 : ItOk Try.prog 89 it89 := itSl_ok (K := .back) (t := (.pair (.int .i64) (.pair (.int .i64) (.pair (.int .i64) (.pair (.int .i64) (.pair (.int .i64) (.pair (.pair (.int .i64) (.pair (.int .i64) (.int .i64))) (.pair (.int .i64) (.int .i64))))))))) run89 (by decide) (fun h => by cases h)
def con71 : Con := { ps := [.d false (.sl (.pair (.int .i64) (.pair (.int .i64) (.pair (.int .i64) (.pair (.int .i64) (.pair (.int .i64) (.pair (.pair (.int .i64) (.pair (.int .i64) (.int .i64))) (.pair (.int .i64) (.int .i64)))))))))], rs := [.cl 89 22 (.sl (.pair (.int .i64) (.pair (.int .i64) (.pair (.int .i64) (.pair (.int .i64) (.pair (.int .i64) (.pair (.pair (.int .i64) (.pair (.int .i64) (.int .i64))) (.pair (.int .i64) (.int .i64)))))))))], pre := fun x => True, out := fun x => (x.1, ()), nw := id }
theorem c71 : CtrOk Try.prog 71 con71.ctr :=
  con_sound (G := ⟨[], [], [], []⟩) tab_ok EnvOk.nil rfl Try.func71 rfl con71 7 (by kernel_rfl) (by decide) (by decide) rfl (by decide) rfl (by
    rintro ⟨(xs : List Opn), _⟩ hpre hwf X hT hG hk hK
    (simp -implicitDefEqProofs only [go_sem, Prod.eta, Option.isSome_none, Option.isSome_some, Int.toNat_zero, Nat.reduceAdd, Nat.reduceMul, Nat.reduceSub, Nat.reduceEqDiff, Nat.reduceLT, Nat.reduceLeDiff, Nat.reduceShiftRight, Nat.reduceMod, Nat.reduceBEq, reduceCtorEq, reduceIte, reduceDIte, Int.reduceNeg, Bool.not_eq_true', Bool.not_eq_false', Bool.or_eq_true, Bool.or_eq_false_iff, Bool.and_eq_true, Bool.and_eq_false_iff, decide_eq_true_eq, decide_eq_false_iff_not, Classical.not_not, not_or, maxLen, con71, hT, hG, hk, hK, Try.results71] at hwf ⊢); (try simp (disch := decide +kernel) only [drawn, true_and, and_true])
    skip)
end Go.Proofs.Ythiddcobegnokaa

/- The contract of placement. -/
set_option linter.unusedSimpArgs false
set_option linter.unusedVariables false
set_option maxRecDepth 100000
set_option maxHeartbeats 4000000
namespace Go.Proofs.Ythiddcobegnokaa
open Go.Ev

/-- The loads at the end, the last one first. -/
def trail (l : List Opn) : List Int := (l.reverse.takeWhile (fun o => decide (o.kind = 1))).map Opn.box
abbrev Plc := Pce × Int × List Int
def o0 : Opn := (0, 0, 0, 0, 0, (0, 0, 0), 0, 0)
def placeV (l : List Opn) : Plc := ((l.getD (l.length - 1) o0).2.2.2.2.2, if (l.getD (l.length - 1) o0).kind = 1 then (l.getD (l.length - 1) o0).box else 0, compV (sortI (trail l)))
def TrN (l : List Opn) (n : Nat) : Prop := n ≤ l.length ∧ ∀ i, i < n → (l.reverse.getD i o0).kind = 1
theorem TrN.zero (l : List Opn) : TrN l 0 := ⟨Nat.zero_le _, fun i h => by omega⟩
theorem TrN.tw : ∀ {r : List Opn} {n : Nat}, n ≤ r.length → (∀ i, i < n → (r.getD i o0).kind = 1) → (n < r.length → (r.getD n o0).kind ≠ 1) → r.takeWhile (fun o => decide (o.kind = 1)) = r.take n
  | [], n, h, _, _ => by simp at h; subst h; rfl
  | a :: r, 0, _, _, h => by
    have : a.kind ≠ 1 := by simpa using h (by simp)
    simp [this]
  | a :: r, n + 1, h, k, q => by
    have h1 : a.kind = 1 := by simpa using k 0 (by omega)
    have := TrN.tw (r := r) (n := n) (by simpa using h) (fun i hi => by simpa using k (i + 1) (by omega)) (fun hi => by simpa using q (by simpa using hi))
    simp [h1, this]
theorem TrN.trail {l : List Opn} {n : Nat} (h : TrN l n) (q : n < l.length → (l.reverse.getD n o0).kind ≠ 1) : trail l = (l.reverse.take n).map Opn.box := by
  unfold Proofs.Ythiddcobegnokaa.trail
  rw [TrN.tw (by simpa using h.1) h.2 (fun hi => q (by simpa using hi))]
theorem rev_at {l : List Opn} {j : Nat} (hj : j < l.length) (z : Opn) : l.getD (l.length - 1 - j) z = l.reverse.getD j o0 := by
  have h1 : l.length - 1 - j < l.length := by omega
  simp [List.getD_eq_getElem?_getD, List.getElem?_reverse hj, h1]
theorem sortI_len (l : List Int) : (sortI l).length = l.length := (List.mergeSort_perm l _).length_eq
theorem compV_le (l : List Int) : (compV l).length ≤ l.length := ddU_len l _
def con47 : Con := { ps := [.d false (.sl (.pair (.int .i64) (.pair (.int .i64) (.pair (.int .i64) (.pair (.int .i64) (.pair (.int .i64) (.pair (.pair (.int .i64) (.pair (.int .i64) (.int .i64))) (.pair (.int .i64) (.int .i64)))))))))], rs := [.d true (.pair (.pair (.pair (.int .i64) (.pair (.int .i64) (.int .i64))) (.pair (.int .i64) (.int .i64))) (.pair (.int .i64) (.sl (.int .i64))))], pre := fun (x : List Opn × Unit) => x.1 ≠ [] ∧ x.1.length ≤ 1048576, out := fun (x : List Opn × Unit) => (placeV x.1, ()), nw := id }
theorem c47 : CtrOk Try.prog 47 con47.ctr :=
  con_sound (G := ⟨[(71, con71.ctr), (72, con72.ctr), (73, con73.ctr)], [], [], [(89, it89)]⟩) tab_ok (EnvOk.cons c71 has71 (EnvOk.cons c72 has72 (EnvOk.cons c73 has73 (EnvOk.icons i89 has89 EnvOk.nil)))) rfl Try.func47 rfl con47 327417949 (by kernel_rfl) (by decide) (by decide) rfl (by decide) rfl (by
    rintro ⟨(l : List Opn), _⟩ hpre hwf X hT hG hk hK
    (simp -implicitDefEqProofs only [go_sem, Prod.eta, Option.isSome_none, Option.isSome_some, Int.toNat_zero, Nat.reduceAdd, Nat.reduceMul, Nat.reduceSub, Nat.reduceEqDiff, Nat.reduceLT, Nat.reduceLeDiff, Nat.reduceShiftRight, Nat.reduceMod, Nat.reduceBEq, reduceCtorEq, reduceIte, reduceDIte, Int.reduceNeg, Bool.not_eq_true', Bool.not_eq_false', Bool.or_eq_true, Bool.or_eq_false_iff, Bool.and_eq_true, Bool.and_eq_false_iff, decide_eq_true_eq, decide_eq_false_iff_not, Classical.not_not, not_or, maxLen, con47, con71, con72, con73, hT, hG, hk, hK, Try.results47] at hwf ⊢); (try simp (disch := decide +kernel) only [drawn, true_and, and_true])
    obtain ⟨hne, hlen⟩ : l ≠ [] ∧ l.length ≤ 1048576 := hpre
    have hpos : 0 < l.length := List.length_pos_iff.2 hne
    have hidx : ((l.length : Int) - 1).toNat = l.length - 1 := by omega
    rw [hidx]
    have hlast : ∃ z, l.getD (l.length - 1) o0 = z := ⟨_, rfl⟩
    obtain ⟨z, hz⟩ := hlast
    have hz2 : l.getD (l.length - 1) (0, 0, 0, 0, 0, (0, 0, 0), 0, 0) = z := hz
    rw [hz2]
    have hpv : ∀ n, TrN l n → (n < l.length → (l.reverse.getD n o0).kind ≠ 1) → placeV l = (z.2.2.2.2.2, if z.kind = 1 then z.box else 0, compV (sortI ((l.reverse.take n).map Opn.box))) := fun n h1 h2 => by
      unfold placeV; rw [hz, h1.trail h2]
    refine fun _ => ⟨⟨by omega, by omega⟩, ⟨by omega, by omega⟩, fun _ _ => ⟨fun hk1 _ => ?_, fun hk1 _ => ?_⟩⟩
    · have hcv : (if z.kind = 1 then z.box else 0) = z.2.2.2.2.1 := if_pos hk1
      refine evk_range (I := it89) (E := slG .back (.pair (.int .i64) (.pair (.int .i64) (.pair (.int .i64) (.pair (.int .i64) (.pair (.int .i64) (.pair (.pair (.int .i64) (.pair (.int .i64) (.int .i64))) (.pair (.int .i64) (.int .i64)))))))) true _ l) ⟨fun p => { u : Unit // TrN l p.length }, 1000, [(2, .one (.loc 70 0)), (4, .one (.loc 72 0))], fun p _ => [(70, .cells 55 [.int .i64 0, .int .i64 0, .int .i64 0, .int .i64 0, .int .i64 0, .int .i64 0, .row 71]), (71, .row 3 (.int .i64) []), (72, .cells 55 [.int .i64 z.2.2.2.2.2.1.1, .int .i64 z.2.2.2.2.2.1.2.1, .int .i64 z.2.2.2.2.2.1.2.2, .int .i64 z.2.2.2.2.2.2.1, .int .i64 z.2.2.2.2.2.2.2, .int .i64 (z.2.2.2.2.1), .row 73]), (73, .row 3 (.int .i64) ((l.reverse.take p.length).map Opn.box))]⟩ ⟨(), TrN.zero l⟩ rfl ?_ rfl trivial rfl ?_ (by kernel_rfl) (by kernel_rfl) rfl ?_ ?_
      · rw [hG]; rfl
      · simp only [go_sem, Prod.eta, Option.isSome_none, Option.isSome_some, Int.toNat_zero, Nat.reduceAdd, Nat.reduceMul, Nat.reduceSub, Nat.reduceEqDiff, Nat.reduceLT, Nat.reduceLeDiff, Nat.reduceShiftRight, Nat.reduceMod, Nat.reduceBEq, reduceCtorEq, reduceIte, reduceDIte, Int.reduceNeg]
      · rintro p j ⟨_, (htr : TrN l p.length)⟩ hpf hasm
        obtain ⟨rfl, hj⟩ := pfx_at hpf
        have hml : ((l.reverse.take (List.range j).length).map Opn.box).length ≤ 1048576 := by simp; omega
        have hev := rev_at hj (0, 0, 0, 0, 0, (0, 0, 0), 0, 0)
        obtain ⟨y, hy⟩ : ∃ y, l.getD (l.length - 1 - j) (0, 0, 0, 0, 0, (0, 0, 0), 0, 0) = y := ⟨_, rfl⟩
        (simp -implicitDefEqProofs only [go_sem, Prod.eta, Option.isSome_none, Option.isSome_some, Int.toNat_zero, Nat.reduceAdd, Nat.reduceMul, Nat.reduceSub, Nat.reduceEqDiff, Nat.reduceLT, Nat.reduceLeDiff, Nat.reduceShiftRight, Nat.reduceMod, Nat.reduceBEq, reduceCtorEq, reduceIte, reduceDIte, Int.reduceNeg, Bool.not_eq_true', Bool.not_eq_false', Bool.or_eq_true, Bool.or_eq_false_iff, Bool.and_eq_true, Bool.and_eq_false_iff, decide_eq_true_eq, decide_eq_false_iff_not, Classical.not_not, not_or, maxLen, con47, con71, con72, con73, hT, hG, hk, hK, Try.results47]); (try simp (disch := decide +kernel) only [drawn, true_and, and_true])
        rw [hy]
        rw [hy] at hev
        refine ⟨fun hkn => ⟨by omega, fun _ => ?_⟩, fun hkn => ⟨by omega, ?_⟩⟩
        · rw [hpv (List.range j).length htr (fun _ => by rw [List.length_range, ← hev]; exact hkn), hcv]
          exact ⟨rfl, rfl, rfl, rfl, rfl, rfl, rfl⟩
        · have hst : (l.reverse.take ((List.range j ++ [j]).length)).map Opn.box = (l.reverse.take (List.range j).length).map Opn.box ++ [y.box] := by
            rw [List.length_append, List.length_range, List.length_singleton, List.take_succ_eq_append_getElem (by simpa using hj), List.map_append]
            congr 1
            rw [hev]
            simp [List.getD_eq_getElem?_getD, hj]
          have htn : TrN l (List.range j ++ [j]).length := by
            rw [List.length_range] at htr
            rw [List.length_append, List.length_range, List.length_singleton]
            refine ⟨by omega, fun i hi => ?_⟩
            by_cases e : i = j
            · subst e; rw [← hev]; exact hkn
            · exact htr.2 i (by omega)
          refine fin_rf ⟨(), htn⟩ ?_
          simp only [go_sem, Prod.eta, Option.isSome_none, Option.isSome_some, Int.toNat_zero, Nat.reduceAdd, Nat.reduceMul, Nat.reduceSub, Nat.reduceEqDiff, Nat.reduceLT, Nat.reduceLeDiff, Nat.reduceShiftRight, Nat.reduceMod, Nat.reduceBEq, reduceCtorEq, reduceIte, reduceDIte, Int.reduceNeg]
          rw [hst]
          rfl
      · rintro p ⟨_, (htr : TrN l p.length)⟩ hp
        have hml : ((l.reverse.take p.length).map Opn.box).length ≤ 1048576 := by simp; omega
        have hpl : p.length = l.length := by rw [show p = List.range l.length from hp, List.length_range]
        (simp -implicitDefEqProofs only [go_sem, Prod.eta, Option.isSome_none, Option.isSome_some, Int.toNat_zero, Nat.reduceAdd, Nat.reduceMul, Nat.reduceSub, Nat.reduceEqDiff, Nat.reduceLT, Nat.reduceLeDiff, Nat.reduceShiftRight, Nat.reduceMod, Nat.reduceBEq, reduceCtorEq, reduceIte, reduceDIte, Int.reduceNeg, Bool.not_eq_true', Bool.not_eq_false', Bool.or_eq_true, Bool.or_eq_false_iff, Bool.and_eq_true, Bool.and_eq_false_iff, decide_eq_true_eq, decide_eq_false_iff_not, Classical.not_not, not_or, maxLen, con47, con71, con72, con73, hT, hG, hk, hK, Try.results47]); (try simp (disch := decide +kernel) only [drawn, true_and, and_true])
        refine ⟨by omega, fun _ => ?_⟩
        rw [hpv p.length htr (fun h => by omega), hcv]
        exact ⟨rfl, rfl, rfl, rfl, rfl, rfl, rfl⟩
    · have hcv : (if z.kind = 1 then z.box else 0) = (0 : Int) := if_neg hk1
      refine evk_range (I := it89) (E := slG .back (.pair (.int .i64) (.pair (.int .i64) (.pair (.int .i64) (.pair (.int .i64) (.pair (.int .i64) (.pair (.pair (.int .i64) (.pair (.int .i64) (.int .i64))) (.pair (.int .i64) (.int .i64)))))))) true _ l) ⟨fun p => { u : Unit // TrN l p.length }, 1000, [(2, .one (.loc 70 0)), (4, .one (.loc 72 0))], fun p _ => [(70, .cells 55 [.int .i64 0, .int .i64 0, .int .i64 0, .int .i64 0, .int .i64 0, .int .i64 0, .row 71]), (71, .row 3 (.int .i64) []), (72, .cells 55 [.int .i64 z.2.2.2.2.2.1.1, .int .i64 z.2.2.2.2.2.1.2.1, .int .i64 z.2.2.2.2.2.1.2.2, .int .i64 z.2.2.2.2.2.2.1, .int .i64 z.2.2.2.2.2.2.2, .int .i64 ((0 : Int)), .row 73]), (73, .row 3 (.int .i64) ((l.reverse.take p.length).map Opn.box))]⟩ ⟨(), TrN.zero l⟩ rfl ?_ rfl trivial rfl ?_ (by kernel_rfl) (by kernel_rfl) rfl ?_ ?_
      · rw [hG]; rfl
      · simp only [go_sem, Prod.eta, Option.isSome_none, Option.isSome_some, Int.toNat_zero, Nat.reduceAdd, Nat.reduceMul, Nat.reduceSub, Nat.reduceEqDiff, Nat.reduceLT, Nat.reduceLeDiff, Nat.reduceShiftRight, Nat.reduceMod, Nat.reduceBEq, reduceCtorEq, reduceIte, reduceDIte, Int.reduceNeg]
      · rintro p j ⟨_, (htr : TrN l p.length)⟩ hpf hasm
        obtain ⟨rfl, hj⟩ := pfx_at hpf
        have hml : ((l.reverse.take (List.range j).length).map Opn.box).length ≤ 1048576 := by simp; omega
        have hev := rev_at hj (0, 0, 0, 0, 0, (0, 0, 0), 0, 0)
        obtain ⟨y, hy⟩ : ∃ y, l.getD (l.length - 1 - j) (0, 0, 0, 0, 0, (0, 0, 0), 0, 0) = y := ⟨_, rfl⟩
        (simp -implicitDefEqProofs only [go_sem, Prod.eta, Option.isSome_none, Option.isSome_some, Int.toNat_zero, Nat.reduceAdd, Nat.reduceMul, Nat.reduceSub, Nat.reduceEqDiff, Nat.reduceLT, Nat.reduceLeDiff, Nat.reduceShiftRight, Nat.reduceMod, Nat.reduceBEq, reduceCtorEq, reduceIte, reduceDIte, Int.reduceNeg, Bool.not_eq_true', Bool.not_eq_false', Bool.or_eq_true, Bool.or_eq_false_iff, Bool.and_eq_true, Bool.and_eq_false_iff, decide_eq_true_eq, decide_eq_false_iff_not, Classical.not_not, not_or, maxLen, con47, con71, con72, con73, hT, hG, hk, hK, Try.results47]); (try simp (disch := decide +kernel) only [drawn, true_and, and_true])
        rw [hy]
        rw [hy] at hev
        refine ⟨fun hkn => ⟨by omega, fun _ => ?_⟩, fun hkn => ⟨by omega, ?_⟩⟩
        · rw [hpv (List.range j).length htr (fun _ => by rw [List.length_range, ← hev]; exact hkn), hcv]
          exact ⟨rfl, rfl, rfl, rfl, rfl, rfl, rfl⟩
        · have hst : (l.reverse.take ((List.range j ++ [j]).length)).map Opn.box = (l.reverse.take (List.range j).length).map Opn.box ++ [y.box] := by
            rw [List.length_append, List.length_range, List.length_singleton, List.take_succ_eq_append_getElem (by simpa using hj), List.map_append]
            congr 1
            rw [hev]
            simp [List.getD_eq_getElem?_getD, hj]
          have htn : TrN l (List.range j ++ [j]).length := by
            rw [List.length_range] at htr
            rw [List.length_append, List.length_range, List.length_singleton]
            refine ⟨by omega, fun i hi => ?_⟩
            by_cases e : i = j
            · subst e; rw [← hev]; exact hkn
            · exact htr.2 i (by omega)
          refine fin_rf ⟨(), htn⟩ ?_
          simp only [go_sem, Prod.eta, Option.isSome_none, Option.isSome_some, Int.toNat_zero, Nat.reduceAdd, Nat.reduceMul, Nat.reduceSub, Nat.reduceEqDiff, Nat.reduceLT, Nat.reduceLeDiff, Nat.reduceShiftRight, Nat.reduceMod, Nat.reduceBEq, reduceCtorEq, reduceIte, reduceDIte, Int.reduceNeg]
          rw [hst]
          rfl
      · rintro p ⟨_, (htr : TrN l p.length)⟩ hp
        have hml : ((l.reverse.take p.length).map Opn.box).length ≤ 1048576 := by simp; omega
        have hpl : p.length = l.length := by rw [show p = List.range l.length from hp, List.length_range]
        (simp -implicitDefEqProofs only [go_sem, Prod.eta, Option.isSome_none, Option.isSome_some, Int.toNat_zero, Nat.reduceAdd, Nat.reduceMul, Nat.reduceSub, Nat.reduceEqDiff, Nat.reduceLT, Nat.reduceLeDiff, Nat.reduceShiftRight, Nat.reduceMod, Nat.reduceBEq, reduceCtorEq, reduceIte, reduceDIte, Int.reduceNeg, Bool.not_eq_true', Bool.not_eq_false', Bool.or_eq_true, Bool.or_eq_false_iff, Bool.and_eq_true, Bool.and_eq_false_iff, decide_eq_true_eq, decide_eq_false_iff_not, Classical.not_not, not_or, maxLen, con47, con71, con72, con73, hT, hG, hk, hK, Try.results47]); (try simp (disch := decide +kernel) only [drawn, true_and, and_true])
        refine ⟨by omega, fun _ => ?_⟩
        rw [hpv p.length htr (fun h => by omega), hcv]
        exact ⟨rfl, rfl, rfl, rfl, rfl, rfl, rfl⟩)
end Go.Proofs.Ythiddcobegnokaa
