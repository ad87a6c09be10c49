/- Plates in order, each once. -/
import Derived.Test.YthlomeneidophaaGreatMvKcToKD
import Derived.Test.YthlomeneidophaaGreatMvLay
import Derived.Test.YthlomeneidophaaGreatMvKaToOrd
import Derived.Test.YthlomeneidophaaGreatEvSimp
import Derived.RangeFuncBox
import Derived.Shelf.Abstract
import Derived.RangeFuncLeaves
import Derived.WalkKit
import Derived.OwnWalkIn
import Derived.TacticsInMore
import Derived.LoopNIn
import Derived.LoopIn
import Derived.Test.YthlomeneidophaaGreatProg
set_option linter.unusedSimpArgs false
set_option linter.unusedVariables false
set_option maxRecDepth 100000
set_option maxHeartbeats 4000000
namespace Go.Proofs.YthlomeneidophaaGreat
open Go.Ev

theorem Cmp.as {α : Type} {c : α → α → Int} (hc : Cmp c) (x y : α) (h : c x y < 0) : ¬ c y x < 0 := fun k => by
 have := (hc.anti x y).1 h
 omega
theorem snoc_ind {α : Type} {P : List α → Prop} (h0 : P []) (h1 : ∀ l x, P l → P (l ++ [x])) (l : List α) : P l := by
 have : ∀ r : List α, P r.reverse := fun r => by
  induction r with
  | nil => exact h0
  | cons a r ih => rw [List.reverse_cons]; exact h1 _ _ ih
 have h := this l.reverse
 rwa [List.reverse_reverse] at h
instance kdPlO : DecidableEq Plt := instDecidableEqProd
def con70 : RCon := sortFCon 41 yPL 26 (fun a b => pltC a b)
theorem c70 : RCtrOk Tryz.prog 70 con70.rctr := sort_func (e := 41) (t := yPL) Tryz.sortP (by decide) Tryz.isAgg41 Tryz.sizeOf41 (hS := by unfold StrictP; rw [← Array.all_toList]; kernel_rfl) (c := fun (a b : Plt) => pltC a b) c26 has26 pltC_cmp.swo
end Go.Proofs.YthlomeneidophaaGreat

/- Iterators over slices: what a seat shows of their run; what they are gone over as. -/
set_option linter.unusedSimpArgs false
set_option linter.unusedVariables false
namespace Go.Ev
open Go.RowKit

/-- The values of a round: elements' cells, the length, the round. -/
abbrev EncSl := Nat → (Nat → List Value) → Nat → Array Value
def encValues (ag : Bool) : EncSl := fun _ cs j => #[mkV ag (cs j)]
def encAll (ag : Bool) : EncSl := fun _ cs j => #[.int .i64 (j : Int), mkV ag (cs j)]
def encBack (ag : Bool) : EncSl := fun len cs j => #[.int .i64 ((len : Int) - 1 - j), mkV ag (cs (len - 1 - j))]

def RunsSl (P : Program) (f : Nat) (n : Nat) (y : EncSl) : Prop :=
 ∀ (l Bs : Nat) (a : Option Addr) (len cap : Nat) (cs : Nat → List Value) (bs : List Nat) (J Jx : List Nat → World → Prop), len ≤ maxLen → (∀ k, (cs k).length = n) → Bs ∈ bs → (0 < len → ∃ b off, a = some ⟨b, off, none⟩ ∧ b ∈ bs) →
   (∀ (pre : List Nat) (j : Nat) (W : World), Pfx (fun q => q = List.range len) (pre ++ [j]) → J pre W → YieldAt Fence.wide 1 P l (y len cs j) W fun e W' =>
     (e = .returned (.bool true) ∧ J (pre ++ [j]) W' ∧ KpB bs W W' ∧ KeepN W W') ∨ (e = .returned (.bool false) ∧ Jx (pre ++ [j]) W')) →
   ∀ W : World, W.cell? ⟨Bs, 0, none⟩ = some (.slice a len cap) → (∀ b off, a = some ⟨b, off, none⟩ → ∀ k, k < len → ∀ i u, (cs k)[i]? = some u → W.cell? ⟨b, off + k * n + i, none⟩ = some u) → J [] W →
   CallsIn Fence.wide 2 P f #[.func (.yield l) #[] #[], .pointer (some ⟨Bs, 0, none⟩)] W fun e W' => (∃ v, e = .returned v) ∧
    ((∃ ys, ys = List.range len ∧ J ys W') ∨ (∃ pre, Pfx (fun q => q = List.range len) pre ∧ Jx pre W'))

theorem pfx_range {k len : Nat} (h : k < len) : Pfx (fun q => q = List.range len) (List.range k ++ [k]) := by
 refine ⟨(List.range len).drop (k + 1), ?_⟩
 rw [← List.range_succ]
 have : List.range (k + 1) = (List.range len).take (k + 1) := by rw [List.take_range]; congr 1; omega
 rw [this, List.take_append_drop]
theorem pfx_at {len j : Nat} {p : List Nat} (h : Pfx (fun q => q = List.range len) (p ++ [j])) : p = List.range j ∧ j < len := by
 obtain ⟨q, h⟩ := h
 have hl := congrArg List.length h
 simp only [List.length_append, List.length_cons, List.length_nil, List.length_range] at hl
 have e1 : p.length < len := by omega
 have hj : (List.range len)[p.length]? = some j := by rw [← h]; simp
 rw [List.getElem?_range e1] at hj
 cases hj
 refine ⟨?_, e1⟩
 have e2 := congrArg (List.take p.length) h
 simp only [List.append_assoc, List.take_left, List.take_range] at e2
 rw [Nat.min_eq_left (by omega)] at e2
 exact e2
theorem wrap64_sub1 {len : Nat} (h : len ≤ maxLen) : wrap64 ((len : Int) - 1) = (len : Int) - 1 := by
 unfold maxLen at h; unfold wrap64; omega
theorem wrap64_back {len k : Nat} (h : len ≤ maxLen) (hk : k ≤ len) : Value.int .i64 (wrap64 ((len : Int) - 1 - k - 1)) = .int .i64 ((len : Int) - 1 - ((k + 1 : Nat) : Int)) := by
 unfold maxLen at h; congr 1; unfold wrap64; omega
/-- How a slice is gone over. -/
inductive SlK where
 | back | vals | all
def SlK.enc (ag : Bool) : SlK → EncSl
 | .back => encBack ag
 | .vals => encValues ag
 | .all => encAll ag
def SlK.ar : SlK → Nat
 | .vals => 1
 | _ => 2
/-- The element that a round is handed. -/
def SlK.ix (len j : Nat) : SlK → Nat
 | .back => len - 1 - j
 | _ => j
def SlK.y (t : Ty) (ag : Bool) (xs : List t.den) (j : Nat) : SlK → List AV
 | .back => [.one (.int .i64 ((xs.length : Int) - 1 - j)), avOf ag (expl t (xs.getD (xs.length - 1 - j) t.dflt))]
 | .vals => [avOf ag (expl t (xs.getD j t.dflt))]
 | .all => [.one (.int .i64 (j : Int)), avOf ag (expl t (xs.getD j t.dflt))]
def slG (K : SlK) (t : Ty) (ag : Bool) (u : Heap) (xs : List t.den) : ItE :=
 ⟨True, fun j => K.y t ag xs j, K.ar, u, fun q => q = List.range xs.length, fun j => j < xs.length ∧ Wf t (xs.getD (K.ix xs.length j) t.dflt)⟩
def itSlO (K : SlK) (t : Ty) (ag : Bool) (u : Heap) : Option (List t.den) → ItE
 | some xs => slG K t ag u xs
 | none => ItE.bad
/-- A closure over the box of a slice. -/
def itSl (K : SlK) (e : TypeId) (t : Ty) (ag : Bool) : ItC := fun caps m => match caps with
 | [.loc id 0] => (match m id with
   | .cells e' [c] => if e' = e then itSlO K t ag ((rowsOf [c]).map (settle m) ++ [(id, .dead)]) (view m t c) else ItE.bad
   | _ => ItE.bad)
 | _ => ItE.bad

attribute [go_sem] slG SlK.y SlK.ar SlK.ix
theorem repCs_one {x : Rx} {c : C1} {vs : List Value} (h : repCs x [c] vs) : ∃ v, vs = [v] ∧ repC x c v := by
 obtain ⟨v, r, e, h1, h2⟩ := repCs_cons.1 h
 rw [repCs_nil.1 h2] at e
 exact ⟨v, e, h1⟩
theorem repAs_one {x : Rx} {a : AV} {v : Value} (h : repA x a v) : repAs x [a] [v] := by
 unfold repAs; exact ⟨v, [], rfl, h, by unfold repAs; rfl⟩
theorem repAs_two {x : Rx} {a b : AV} {v u : Value} (h : repA x a v) (k : repA x b u) : repAs x [a, b] [v, u] := by
 unfold repAs; exact ⟨v, [u], rfl, h, repAs_one k⟩
theorem roAll_cut {α : Type} {r : α → List Value → Prop} {n : Nat} (hn : ∀ x c, r x c → c.length = n) {xs : List α} {vs : List Value} (h : roAll r xs vs) {i : Nat} (hi : i < xs.length) : r xs[i] ((vs.drop (i * n)).take n) := by
 obtain ⟨pre, c, post, e, hl, hc, _, _⟩ := roAll_at hn h hi
 rw [e, ← hl, List.drop_left, ← hn _ _ hc, List.take_left]
 exact hc

theorem itSl_ok {P : Program} {f : FuncId} {K : SlK} {e : TypeId} {t : Ty} {ag : Bool} (hrun : RunsSl P f t.n (K.enc ag)) (hn : 0 < t.n) (h1 : ag = false → t.n = 1) : ItOk P f (itSl K e t ag) := by
 intro cx σ N m w caps lb h hcaps hpre
 unfold itSl at hpre ⊢
 split at hpre
 case h_2 => exact hpre.elim
 rename_i id
 split at hpre
 case h_2 => exact hpre.elim
 rename_i e' c hmid
 split at hpre
 case isFalse => exact hpre.elim
 rename_i he
 subst he
 rw [if_pos rfl]
 cases hv : view m t c with
 | none => rw [hv] at hpre; exact hpre.elim
 | some xs =>
   simp only [itSlO, slG]
   obtain ⟨v, rfl, hr⟩ := repCs_one hcaps
   unfold repC at hr
   obtain ⟨hNid, b0, hσ, rfl⟩ := hr
   have hσ : σ id = .pointer (some ⟨b0, 0, none⟩) := hσ
   have hb := h.blk id
   rw [hmid] at hb
   obtain ⟨b1, vs, e1, e2, e3, _⟩ := hb
   have hb01 : b1 = b0 := by have e1 : σ id = .pointer (some ⟨b1, 0, none⟩) := e1; rw [hσ] at e1; cases e1; rfl
   subst hb01
   obtain ⟨u, rfl, hu⟩ := repCs_one e3
   have hcell0 : w.cell? ⟨b1, 0, none⟩ = some u := by
    have e2 : w.heap[b1]? = some (.cells #[u] e' (0, 0)) := e2
    simp [World.cell?, e2]
   -- the box is given away
   obtain ⟨hM1, k1⟩ := h.settles (rowsOf [c])
   obtain ⟨hM2, k2⟩ := hM1.drop id
   have hupd : updM (updM m ((rowsOf [c]).map (settle m))) [(id, .dead)] = updM m ((rowsOf [c]).map (settle m) ++ [(id, .dead)]) := (updM_append ..).symm
   rw [hupd] at hM2 k2
   have hO1 : ∀ b, Owned cx σ (updM m ((rowsOf [c]).map (settle m) ++ [(id, .dead)])) b → Owned cx σ (updM m ((rowsOf [c]).map (settle m))) b := by
    rintro b (hf | ⟨i, h1, h2⟩)
    · exact .inl hf
    · rw [← hupd] at h1
      by_cases ei : id = i
      · subst ei; simp [updM, own] at h1
      · simp only [updM, if_neg ei] at h1
        exact .inr ⟨i, h1, h2⟩
   have hro : ro w (Owned cx σ (updM m ((rowsOf [c]).map (settle m) ++ [(id, .dead)]))) (.sl t) xs [u] :=
    data_in h (rowsOf [c]) ⟨w, Owned cx σ (updM m ((rowsOf [c]).map (settle m) ++ [(id, .dead)])), σ, N⟩ rfl hO1 (t := .sl t) (cs := [c]) (vs := [u]) (by simpa [impl, implL] using hv) (fun i hi => hi) e3
   have hbox : ¬ Owned cx σ (updM m ((rowsOf [c]).map (settle m) ++ [(id, .dead)])) b1 := by
    have hbid : hb (σ id) b1 := by rw [hσ]; exact .inl rfl
    rintro (hf | ⟨i, h3, h4⟩)
    · exact h.notF id b1 (by rw [hmid]; rfl) hbid hf
    · rw [← hupd] at h3
      by_cases ei : id = i
      · subst ei; simp [updM, own] at h3
      · simp only [updM, if_neg ei] at h3
        have h5 : own (m i) = true := by
         rw [updM_settle m _ m i (fun i _ => .inl rfl)] at h3
         split at h3
         · exact settle_not_own m i h3
         · exact h3
        exact ei (h.inj id i b1 (by rw [hmid]; rfl) h5 hbid h4)
   have hwf := ro_wf (.sl t) xs [u] hro
   obtain ⟨a, len, cap, hu2, hlen, hlc, hcm, hdat⟩ := hro
   cases hu2
   subst hlen
   have hmx : xs.length ≤ maxLen := Nat.le_trans hlc hcm
   -- the elements' cells
   obtain ⟨flat, hflat⟩ : ∃ flat : List Value, 0 < xs.length → ∃ b o, a = some ⟨b, o, none⟩ ∧ roAll (ro w (Owned cx σ (updM m ((rowsOf [c]).map (settle m) ++ [(id, .dead)]))) t) xs flat ∧ CellsAt w (Owned cx σ (updM m ((rowsOf [c]).map (settle m) ++ [(id, .dead)]))) b o flat := by
    rcases hdat with h0 | ⟨b, o, flat, q1, q2, q3⟩
    · exact ⟨[], fun hp => by omega⟩
    · exact ⟨flat, fun _ => ⟨b, o, q1, q2, q3⟩⟩
   let cs : Nat → List Value := fun k => if k < xs.length then (flat.drop (k * t.n)).take t.n else List.replicate t.n undef
   have hel : ∀ k (hk : k < xs.length), ro w (Owned cx σ (updM m ((rowsOf [c]).map (settle m) ++ [(id, .dead)]))) t xs[k] (cs k) := fun k hk => by
    obtain ⟨b, o, q1, q2, q3⟩ := hflat (by omega)
    simp only [cs, if_pos hk]
    exact roAll_cut (fun x c hx => ro_len t x c hx) q2 hk
   have hcs : ∀ k, (cs k).length = t.n := fun k => by
    by_cases hk : k < xs.length
    · exact ro_len t _ _ (hel k hk)
    · simp only [cs, if_neg hk, List.length_replicate]
   have hget : ∀ k (hk : k < xs.length), xs.getD k t.dflt = xs[k] := fun k hk => by simp [hk]
   have hixl : ∀ j, j < xs.length → K.ix xs.length j < xs.length := fun j hj => by cases K <;> simp only [SlK.ix] <;> omega
   refine ⟨K.enc ag xs.length cs, b1 :: (match a with | some ad => if 0 < xs.length then [ad.block] else [] | none => []), hM2, ⟨k1.k.trans k2.k (Nat.le_refl _), fun id hid => rfl, fun id hid => hid⟩, fun p j hp => ?_, fun b hb => ?_, ?_⟩
   · obtain ⟨_, hj⟩ := pfx_at hp
     have hix := hixl j hj
     refine ⟨⟨hj, ?_⟩, by cases K <;> rfl, fun y hy => ?_⟩
     · rw [hget _ hix]
       exact ro_wf t _ _ (hel _ hix)
     · have hE : ∀ k (hk : k < xs.length), repA y (avOf ag (expl t (xs.getD k t.dflt))) (mkV ag (cs k)) := fun k hk => by
        rw [hget k hk]
        exact avOf_mkV (ro_keep hy t _ _ (hel k hk)) h1
       have hI : ∀ z : Int, InR .i64 z → repA y (.one (.int .i64 z)) (.int .i64 z) := fun z hz => repA_int hz
       unfold maxLen at hmx
       cases K with
       | back => exact repAs_two (hI _ (by unfold InR IntKind.min IntKind.max; simp only [IntKind.signed, IntKind.bits]; constructor <;> simp <;> omega)) (hE _ hix)
       | vals => exact repAs_one (hE _ hix)
       | all => exact repAs_two (hI _ (by unfold InR IntKind.min IntKind.max; simp only [IntKind.signed, IntKind.bits]; constructor <;> simp <;> omega)) (hE _ hix)
   · rcases List.mem_cons.1 hb with rfl | hb
     · exact ⟨(Array.getElem?_eq_some_iff.1 e2).1, hbox⟩
     · split at hb
       · split at hb
         · rename_i ad hp
           obtain ⟨b', o', q1, q2, q3⟩ := hflat hp
           cases q1
           simp only [List.mem_singleton] at hb
           subst hb
           have hl := hcs 0
           have h0 : (cs 0)[0]? = some ((cs 0)[0]'(by omega)) := List.getElem?_eq_getElem (by omega)
           simp only [cs, if_pos hp, Nat.zero_mul, List.drop_zero] at h0
           rw [List.getElem?_take_of_lt hn] at h0
           obtain ⟨g1, g2⟩ := q3 0 _ h0
           exact ⟨block_lt_of_cell g2, g1⟩
         · cases hb
       · cases hb
   · intro l J Jx W hW hJ hJx hY hj0
     refine hrun l b1 a xs.length cap cs _ J Jx hmx hcs List.mem_cons_self (fun hp => ?_) hY W ?_ (fun b o hab k hk i u hu => ?_) hj0
     · obtain ⟨b', o', q1, _⟩ := hflat hp
       refine ⟨b', o', q1, ?_⟩
       subst q1
       simp [hp]
     · rw [hW.cell (p := ⟨b1, 0, none⟩) (Array.getElem?_eq_some_iff.1 e2).1]; exact hcell0
     · obtain ⟨b', o', q1, q2, q3⟩ := hflat (by omega)
       rw [hab] at q1
       cases q1
       simp only [cs, if_pos hk] at hu
       have hi : i < t.n := by
        have := (List.getElem?_eq_some_iff.1 hu).1
        simp only [List.length_take] at this; omega
       rw [List.getElem?_take_of_lt hi, List.getElem?_drop] at hu
       obtain ⟨g1, g2⟩ := q3 _ _ hu
       rw [show o + k * t.n + i = o + (k * t.n + i) by omega, hW.cell (p := ⟨b, o + (k * t.n + i), none⟩) (block_lt_of_cell g2)]
       exact g2
end Go.Ev

/- The run of slices.Backward's closure. -/
set_option linter.unusedSimpArgs false
set_option linter.unusedVariables false
namespace Go.Proofs.YthlomeneidophaaGreat
open Go.Ev Go.RowKit Go.Shelf

attribute [local go_sem] Oper.semAt_some

theorem list_10_69 {l : List Value} (h : l.length = 10) : ∃ c0 c1 c2 c3 c4 c5 c6 c7 c8 c9, l = [c0, c1, c2, c3, c4, c5, c6, c7, c8, c9] := by
 match l, h with | [c0, c1, c2, c3, c4, c5, c6, c7, c8, c9], _ => exact ⟨c0, c1, c2, c3, c4, c5, c6, c7, c8, c9, rfl⟩


set_option maxRecDepth 100000 in
set_option maxHeartbeats 4000000 in
theorem run69 : RunsSl Tryz.prog 69 10 (encBack true) := by
 intro l Bs a len cap cs bs J Jx hm hcs hB hab hY W hBs hcell0 h0
 refine callsIn_of_wp Tryz.func69 rfl trivial ?_
 simp only [Tryz.ntmps69, List.size_toArray, List.length_cons, List.length_nil, Nat.reduceAdd, Nat.reduceSub, Array.replicate_succ, Array.replicate_zero, List.push_toArray, List.append_toArray, List.nil_append, List.cons_append]
 gi_wp2
 gi_loopw [3] (fun i wr => ∃ k : Nat, k ≤ len ∧ i = .int .i64 ((len : Int) - 1 - k) ∧ J (List.range k) wr ∧ KpB bs W wr) (fun i _ => (intOf i + 1).toNat)
 case atStart => exact ⟨0, Nat.zero_le _, by simp; try (rw [wrap64_sub1 hm]), h0, fun _ _ => rfl⟩
 case round =>
  obtain ⟨k, hk, rfl, hJs, hnx⟩ := hrel
  have hBs' : wr.cell? ⟨Bs, 0, none⟩ = some (.slice a len cap) := (World.cell?_of_block (a := ⟨Bs, 0, none⟩) (hnx Bs hB)).trans hBs
  by_cases hlt : k < len
  · obtain ⟨b, off, rfl, hb⟩ := hab (by omega)
    have hlen := hcs (len - 1 - k)
    have hcell : ∀ i u, (cs (len - 1 - k))[i]? = some u → wr.cell? ⟨b, off + (len - 1 - k) * 10 + i, none⟩ = some u := fun i u hu => (World.cell?_of_block (a := ⟨b, off + (len - 1 - k) * 10 + i, none⟩) (hnx b hb)).trans (hcell0 b off rfl (len - 1 - k) (by omega) i u hu)
    obtain ⟨fn, tmps, assign, body, hy, hR⟩ := hY (List.range k) k wr (pfx_range hlt) hJs
    unfold encBack at hy
    obtain ⟨c0, c1, c2, c3, c4, c5, c6, c7, c8, c9, hcse⟩ := list_10_69 hlen
    rw [hcse] at hcell hy
    have hc0 : wr.cell? ⟨b, off + (len - 1 - k) * 10, none⟩ = some c0 := hcell 0 c0 rfl
    have hc1 : wr.cell? ⟨b, off + (len - 1 - k) * 10 + 1, none⟩ = some c1 := hcell 1 c1 rfl
    have hc2 : wr.cell? ⟨b, off + (len - 1 - k) * 10 + 2, none⟩ = some c2 := hcell 2 c2 rfl
    have hc3 : wr.cell? ⟨b, off + (len - 1 - k) * 10 + 3, none⟩ = some c3 := hcell 3 c3 rfl
    have hc4 : wr.cell? ⟨b, off + (len - 1 - k) * 10 + 4, none⟩ = some c4 := hcell 4 c4 rfl
    have hc5 : wr.cell? ⟨b, off + (len - 1 - k) * 10 + 5, none⟩ = some c5 := hcell 5 c5 rfl
    have hc6 : wr.cell? ⟨b, off + (len - 1 - k) * 10 + 6, none⟩ = some c6 := hcell 6 c6 rfl
    have hc7 : wr.cell? ⟨b, off + (len - 1 - k) * 10 + 7, none⟩ = some c7 := hcell 7 c7 rfl
    have hc8 : wr.cell? ⟨b, off + (len - 1 - k) * 10 + 8, none⟩ = some c8 := hcell 8 c8 rfl
    have hc9 : wr.cell? ⟨b, off + (len - 1 - k) * 10 + 9, none⟩ = some c9 := hcell 9 c9 rfl
    simp only [mkV, if_true, if_false, Bool.false_eq_true, List.getD_cons_zero] at hy
    gi_wp2
    refine hR.mono ?_
    rintro e W3 (⟨rfl, hJ3, hk3, _⟩ | ⟨rfl, hJx3⟩)
    · gi_wp2
      go_roundw
      case rel => exact ⟨k + 1, by omega, wrap64_back hm hk, by rw [List.range_succ]; exact hJ3, fun bb h => (hk3 bb h).trans (hnx bb h)⟩
      case measure => unfold maxLen at hm; simp [intOf, wrap64]; omega
    · gi_wp2
      refine bodyPost_ret (results_none rfl _ _ _) rfl ?_
      exact ⟨⟨_, rfl⟩, .inr ⟨_, pfx_range hlt, hJx3⟩⟩
  · obtain rfl : k = len := by omega
    gi_wp2
    go_end0
    exact ⟨⟨_, rfl⟩, .inl ⟨_, rfl, hJs⟩⟩

end Go.Proofs.YthlomeneidophaaGreat
