/- Part. -/
import Derived.Test.YtabadacjbkhmkaaGreatDoorEvNstToB
set_option linter.all false
set_option maxRecDepth 100000
set_option maxHeartbeats 8000000
namespace Go.Proofs.YtabadacjbkhmkaaGreatDoor
open Go.Ev
def ZT (a n j : Nat) (e : Int) : Prop := ((j : Int) < e ∧ e ≤ a) ∨ e = n - 2
def OT (a n j : Nat) (e : Int) : Prop := ((j : Int) < e ∧ (a : Int) < e ∧ e < n - 2) ∨ e = n - 1
def LnE (T : Int → Prop) (j : Nat) (x : Nd) : Prop :=
 (x.2.1 = 5 ∧ 2 ≤ x.2.2.1 ∧ x.2.2.1 ≤ 4 ∧ ∃ e, T e ∧ x.2.2.2.2 = [(j : Int), e]) ∨
 (x.2.1 = 4 ∧ 1 ≤ x.2.2.1 ∧ x.2.2.1 ≤ 3 ∧ ∃ e, T e ∧ ∃ e', T e' ∧ e ≠ e' ∧ x.2.2.2.2 = [e, e']) ∨
 ((x.2.1 = 1 ∨ x.2.1 = 2 ∨ x.2.1 = 3) ∧ 1 ≤ x.2.2.1 ∧ x.2.2.1 ≤ 3 ∧ ∃ e, T e ∧ x.2.2.2.2 = [e]) ∨
 (x.2.1 = 7 ∧ x.2.2.1 = 0 ∧ ∃ e, T e ∧ x.2.2.2.2 = [e])
def LocOk (a b n j : Nat) (x : Nd) : Prop := x.1 = strOf [65 + (j : Int)] ∧
 ((j = 0 ∧ x.2.1 = 1 ∧ x.2.2.2.1 = 0 ∧ LnE (ZT a n j) j x) ∨
  (0 < j ∧ j < a ∧ (x.2.1 = 2 ∨ x.2.1 = 3 ∨ x.2.1 = 4 ∨ x.2.1 = 5) ∧ x.2.2.2.1 = 0 ∧ LnE (ZT a n j) j x) ∨
  (j = a ∧ x.2.1 = 6 ∧ x.2.2.2.1 = 0 ∧ 1 ≤ x.2.2.1 ∧ x.2.2.1 ≤ 3 ∧ ∃ e, OT a n j e ∧ x.2.2.2.2 = [(n : Int) - 2, e]) ∨
  (a < j ∧ j < a + 1 + b ∧ (x.2.1 = 2 ∨ x.2.1 = 4 ∨ x.2.1 = 5 ∨ x.2.1 = 7) ∧ x.2.2.2.1 = 1 ∧ LnE (OT a n j) j x) ∨
  (a + 1 + b ≤ j ∧ j + 2 < n ∧ x.2.1 = 8 ∧ x.2.2.1 = 0 ∧ x.2.2.2.1 = 1 ∧ x.2.2.2.2 = []) ∨
  (j + 2 = n ∧ x.2.1 = 9 ∧ x.2.2.1 = 0 ∧ x.2.2.2.1 = 0 ∧ x.2.2.2.2 = []) ∨
  (j + 1 = n ∧ x.2.1 = 9 ∧ x.2.2.1 = 0 ∧ x.2.2.2.1 = 1 ∧ x.2.2.2.2 = []))
theorem LnE.le {T : Int → Prop} {j : Nat} {x : Nd} (h : LnE T j x) : 0 ≤ x.2.2.1 ∧ x.2.2.1 ≤ 4 := by
 rcases h with ⟨_, h1, h2, _⟩ | ⟨_, h1, h2, _⟩ | ⟨_, h1, h2, _⟩ | ⟨_, h1, _⟩ <;> omega
theorem LocOk.le {a b n j : Nat} {x : Nd} (h : LocOk a b n j x) : 0 ≤ x.2.2.1 ∧ x.2.2.1 ≤ 4 := by
 obtain ⟨_, h⟩ := h
 rcases h with ⟨_, _, _, h⟩ | ⟨_, _, _, _, h⟩ | ⟨_, _, _, h1, h2, _⟩ | ⟨_, _, _, _, h⟩ | ⟨_, _, _, h, _⟩ | ⟨_, _, h, _⟩ | ⟨_, _, h, _⟩
 · exact h.le
 · exact h.le
 · omega
 · exact h.le
 all_goals omega
theorem LocOk.zone {a b n j : Nat} {x : Nd} (hn : a + b + 3 < n) (ha : 1 ≤ a) (h : LocOk a b n j x) : x.2.2.2.1 = (if j ≤ a ∨ j + 2 = n then 0 else 1) ∧ (0 < j → x.2.1 ≠ 1) := by
 obtain ⟨_, h⟩ := h
 rcases h with ⟨h0, h1, h2, _⟩ | ⟨h0, h0', h1, h2, _⟩ | ⟨h0, h1, h2, _⟩ | ⟨h0, h0', h1, h2, _⟩ | ⟨h0, h0', h1, _, h2, _⟩ | ⟨h0, h1, _, h2, _⟩ | ⟨h0, h1, _, h2, _⟩
 all_goals
  refine ⟨?_, fun _ => by omega⟩; rw [h2]
  first
   | rw [if_pos (by omega)]
   | rw [if_neg (by omega)]
theorem gC8 {a b n j : Nat} {f : Nat → Nd} (hn : a + b + 3 < n) (ha : 1 ≤ a) (h : ∀ j, j < n → LocOk a b n j (f j)) {e : Int} (he : ZT a n j e) : (j : Int) < e ∧ j ≤ a ∧ e < n ∧ (f e.toNat).2.1 ≠ 1 ∧ (f e.toNat).2.2.2.1 = 0 ∨ ¬ j ≤ a := by
 by_cases hj : j ≤ a
 · left; unfold ZT at he; have h1 : (j : Int) < e ∧ e < n ∧ (e.toNat ≤ a ∨ e.toNat + 2 = n) := by omega
   obtain ⟨g1, g2⟩ := (h e.toNat (by omega)).zone hn ha; rw [if_pos h1.2.2] at g1; exact ⟨h1.1, hj, h1.2.1, g2 (by omega), g1⟩
 · exact .inr hj
theorem zC7 {a b n j : Nat} {f : Nat → Nd} (hn : a + b + 3 < n) (ha : 1 ≤ a) (h : ∀ j, j < n → LocOk a b n j (f j)) {e : Int} (he : OT a n j e) (hj : j + 2 < n) : (j : Int) < e ∧ e < n ∧ (f e.toNat).2.1 ≠ 1 ∧ (f e.toNat).2.2.2.1 = 1 := by
 unfold OT at he; have h1 : (j : Int) < e ∧ e < n ∧ ¬ (e.toNat ≤ a ∨ e.toNat + 2 = n) := by omega
 obtain ⟨g1, g2⟩ := (h e.toNat (by omega)).zone hn ha; rw [if_neg h1.2.2] at g1; exact ⟨h1.1, h1.2.1, g2 (by omega), g1⟩
theorem get1 {e x : Int} {k : Nat} (h : [e][k]? = some x) : k = 0 ∧ x = e := by
 match k, h with
 | 0, h => exact ⟨rfl, by simpa using h.symm⟩
 | k + 1, h => simp at h
theorem get2 {e e' x : Int} {k : Nat} (h : [e, e'][k]? = some x) : (k = 0 ∧ x = e) ∨ (k = 1 ∧ x = e') := by
 match k, h with
 | 0, h => exact .inl ⟨rfl, by simpa using h.symm⟩
 | 1, h => exact .inr ⟨rfl, by simpa using h.symm⟩
 | k + 2, h => simp at h
theorem vB4 {n : Nat} {f : Nat → Nd} {j : Nat} {T : Int → Prop} {z : Int} (hT : ∀ e, T e → (j : Int) < e ∧ e < n ∧ (f e.toNat).2.1 ≠ 1 ∧ (f e.toNat).2.2.2.1 = z) (hz : z = 0 ∨ z = 1) (h : LnE T j (f j)) (hx : (f j).2.2.2.1 = z) (h0 : (f j).2.1 = 1 ∨ (f j).2.1 = 3 → z = 0) (h7 : (f j).2.1 = 7 → z = 1) : NdOk n f j := by
 rcases h with ⟨hk, h1, h2, e, he, hex⟩ | ⟨hk, h1, h2, e, he, e', he', hne, hex⟩ | ⟨hk, h1, h2, e, he, hex⟩ | ⟨hk, h1, e, he, hex⟩
 · refine ⟨by omega, fun _ => by omega, fun _ => h1, fun h => ?_, by rw [hx]; exact hz, by rw [hex, hk]; rfl, fun k x hh => ?_, fun p q hh => ?_, fun h => by omega, fun h => by omega, fun k x hh => ?_⟩
   · rw [hk] at h; simp [strN] at h
   · rw [hex] at hh; obtain ⟨g1, g2, _⟩ := hT e he
     rcases get2 hh with ⟨rfl, rfl⟩ | ⟨rfl, rfl⟩
     · exact .inl ⟨⟨hk, rfl⟩, rfl⟩
     · exact .inr ⟨by omega, g1, g2⟩
   · rw [hex] at hh; simp only [List.cons.injEq, and_true] at hh; have := hT e he; omega
   · rw [hex] at hh; rw [if_neg (by omega)]
     rcases get2 hh with ⟨rfl, rfl⟩ | ⟨rfl, rfl⟩
     · rw [Int.toNat_natCast]; exact ⟨by omega, rfl⟩
     · rw [hx]; exact (hT _ he).2.2
 · refine ⟨by omega, fun _ => by omega, fun _ => by omega, fun h => ?_, by rw [hx]; exact hz, by rw [hex, hk]; rfl, fun k x hh => ?_, fun p q hh => ?_, fun h => by omega, fun h => by omega, fun k x hh => ?_⟩
   · rw [hk] at h; simp [strN] at h
   · rw [hex] at hh; obtain ⟨g1, g2, _⟩ := hT e he; obtain ⟨g3, g4, _⟩ := hT e' he'
     rcases get2 hh with ⟨rfl, rfl⟩ | ⟨rfl, rfl⟩
     · exact .inr ⟨by omega, g1, g2⟩
     · exact .inr ⟨by omega, g3, g4⟩
   · rw [hex] at hh; simp only [List.cons.injEq, and_true] at hh; obtain ⟨rfl, rfl⟩ := hh; exact hne
   · rw [hex] at hh; rw [if_neg (by omega), hx]
     rcases get2 hh with ⟨rfl, rfl⟩ | ⟨rfl, rfl⟩
     · exact (hT _ he).2.2
     · exact (hT _ he').2.2
 · refine ⟨by omega, fun _ => by omega, fun _ => by omega, fun h => ?_, by rw [hx]; exact hz, ?_, fun k x hh => ?_, fun p q hh => ?_, fun h => ?_, fun h => by omega, fun k x hh => ?_⟩
   · simp only [strN, Bool.and_eq_false_iff, decide_eq_false_iff_not] at h; omega
   · rw [hex]; unfold exN; rw [if_neg (by omega), if_neg (by omega)]; rfl
   · rw [hex] at hh; obtain ⟨g1, g2, _⟩ := hT e he; obtain ⟨rfl, rfl⟩ := get1 hh; exact .inr ⟨by omega, g1, g2⟩
   · rw [hex] at hh; simp at hh
   · rw [hx]; exact h0 (by omega)
   · rw [hex] at hh; rw [if_neg (by omega), hx]; obtain ⟨rfl, rfl⟩ := get1 hh; exact (hT _ he).2.2
 · refine ⟨by omega, fun h => ?_, fun _ => by omega, fun h => h1, by rw [hx]; exact hz, ?_, fun k x hh => ?_, fun p q hh => ?_, fun h => by omega, fun h => by rw [hx]; exact h7 hk, fun k x hh => ?_⟩
   · rw [hk] at h; simp [strN] at h
   · rw [hex, hk]; rfl
   · rw [hex] at hh; obtain ⟨g1, g2, _⟩ := hT e he; obtain ⟨rfl, rfl⟩ := get1 hh; exact .inr ⟨by omega, g1, g2⟩
   · rw [hex] at hh; simp at hh
   · rw [hex] at hh; rw [if_neg (by omega), hx]; obtain ⟨rfl, rfl⟩ := get1 hh; exact (hT _ he).2.2
theorem yA8 {n : Nat} {f : Nat → Nd} {j : Nat} (hk : (f j).2.1 = 8 ∨ (f j).2.1 = 9) (hl : (f j).2.2.1 = 0) (hz : (f j).2.2.2.1 = 0 ∨ (f j).2.2.2.1 = 1) (h8 : (f j).2.1 = 8 → (f j).2.2.2.1 = 1) (he : (f j).2.2.2.2 = []) : NdOk n f j := by
 refine ⟨by omega, fun h => ?_, fun _ => by omega, fun h => hl, hz, ?_, fun k x hh => ?_, fun p q hh => ?_, fun h => by omega, fun h => h8 (by omega), fun k x hh => ?_⟩
 · simp only [strN, Bool.and_eq_true, decide_eq_true_eq] at h; omega
 · rw [he]; unfold exN; rw [if_neg (by omega), if_pos (by omega)]; rfl
 · rw [he] at hh; simp at hh
 · rw [he] at hh; simp at hh
 · rw [he] at hh; simp at hh
theorem aD3 {a b n : Nat} {f : Nat → Nd} (hn : a + b + 3 < n) (ha : 1 ≤ a) (h : ∀ j, j < n → LocOk a b n j (f j)) {j : Nat} (hj : j < n) : NdOk n f j := by
 obtain ⟨_, hl⟩ := h j hj
 rcases hl with ⟨h0, h1, h2, hl⟩ | ⟨h0, h0', h1, h2, hl⟩ | ⟨h0, h1, h2, h3, h4, e, he, hex⟩ | ⟨h0, h0', h1, h2, hl⟩ | ⟨h0, h0', h1, h3, h2, hex⟩ | ⟨h0, h1, h3, h2, hex⟩ | ⟨h0, h1, h3, h2, hex⟩
 · exact vB4 (z := 0) (fun e he => by have := gC8 hn ha h he; exact this.elim (fun q => ⟨q.1, q.2.2⟩) (fun q => absurd (by omega) q)) (.inl rfl) hl h2 (fun _ => rfl) (by omega)
 · exact vB4 (z := 0) (fun e he => by have := gC8 hn ha h he; exact this.elim (fun q => ⟨q.1, q.2.2⟩) (fun q => absurd (by omega) q)) (.inl rfl) hl h2 (fun _ => rfl) (by omega)
 · obtain ⟨g1, g2, g3, g4⟩ := zC7 hn ha h he (by omega); have hm : (f ((n : Int) - 2).toNat).2.1 ≠ 1 ∧ (f ((n : Int) - 2).toNat).2.2.2.1 = 0 := by
    obtain ⟨q1, q2⟩ := (h ((n : Int) - 2).toNat (by omega)).zone hn ha; rw [if_pos (by omega)] at q1; exact ⟨q2 (by omega), q1⟩
   unfold OT at he; refine ⟨by omega, fun _ => by omega, fun _ => by omega, fun h => ?_, .inl h2, by rw [hex, h1]; rfl, fun k x hh => ?_, fun p q hh => ?_, fun _ => h2, fun h => by omega, fun k x hh => ?_⟩
   · rw [h1] at h; simp [strN] at h
   · rw [hex] at hh
     rcases get2 hh with ⟨rfl, rfl⟩ | ⟨rfl, rfl⟩
     · exact .inr ⟨by omega, by omega, by omega⟩
     · exact .inr ⟨by omega, g1, g2⟩
   · rw [hex] at hh; simp only [List.cons.injEq, and_true] at hh; omega
   · rw [hex] at hh
     rcases get2 hh with ⟨rfl, rfl⟩ | ⟨rfl, rfl⟩
     · rw [if_neg (by omega), h2]; exact hm
     · rw [if_pos ⟨h1, rfl⟩]; exact ⟨g3, g4⟩
 · exact vB4 (z := 1) (fun e he => zC7 hn ha h he (by omega)) (.inr rfl) hl h2 (by omega) (fun _ => rfl)
 · exact yA8 (.inl h1) h3 (.inr h2) (fun _ => h2) hex
 · exact yA8 (.inr h1) h3 (.inl h2) (by omega) hex
 · exact yA8 (.inr h1) h3 (.inr h2) (by omega) hex
theorem sum_le {ns : List Nd} (h : ∀ y ∈ ns, y.2.2.1 ≤ 4) : (ns.map (fun x => x.2.2.1)).sum ≤ 4 * ns.length := by
 induction ns with
 | nil => simp
 | cons y ns ih =>
   have h1 := h y List.mem_cons_self; have h2 := ih fun z hz => h z (List.mem_cons_of_mem _ hz); simp only [List.map_cons, List.sum_cons, List.length_cons]; omega
theorem aC0 {c d : Int} (hc : 65 ≤ c ∧ c ≤ 90) (hd : 65 ≤ d ∧ d ≤ 90) (h : strOf [c] = strOf [d]) : c = d := by
 have h1 := congrArg (fun s : ByteArray => s.toList) h; have h2 : (strOf [c]).data.toList = (strOf [d]).data.toList := by rw [h]
 simp only [strOf, List.foldl_cons, List.foldl_nil] at h2; have e : ∀ c : Int, (ByteArray.empty.push (UInt8.ofNat c.toNat)).data.toList = [UInt8.ofNat c.toNat] := fun c => rfl; rw [e, e] at h2; have h3 : UInt8.ofNat c.toNat = UInt8.ofNat d.toNat := by simpa using h2
 have h4 := congrArg UInt8.toNat h3; simp only [UInt8.toNat_ofNat'] at h4; omega
theorem oC6 {a b n : Nat} {ns : List Nd} {ds : List Dv} (hn : a + b + 3 < n) (hn2 : n ≤ 11) (ha : 1 ≤ a) (hl : ns.length = n) (h : ∀ j, j < n → LocOk a b n j (ns.getD j nd0)) (hd : DevR ns ds) : GoodL (ns, ds) := by
 have hm : ∀ y ∈ ns, y.2.2.1 ≤ 4 := fun y hy => by
  obtain ⟨i, hi, rfl⟩ := List.getElem_of_mem hy; have := (h i (by omega)).le; rw [show ns.getD i nd0 = ns[i] by simp [hi]] at this; exact this.2
 refine ⟨by dsimp only; omega, by dsimp only; omega, fun i hi => ?_, ?_, fun i hi => ?_, fun i j hi hj e => ?_, ?_, hd⟩
 · show NdOk ns.length (fun i => ns.getD i nd0) i; rw [hl]; exact aD3 hn ha h (by rw [← hl]; exact hi)
 · have := sum_le hm; show (ns.map (fun x => x.2.2.1)).sum ≤ 80; omega
 · exact ⟨65 + i, by omega, by dsimp only at hi; omega, (h i (by rw [← hl]; exact hi)).1⟩
 · dsimp only at hi hj e; rw [(h i (by omega)).1, (h j (by omega)).1] at e; have := aC0 (by omega) (by omega) e; omega
 · have h0 := h 0 (by omega); obtain ⟨_, h0⟩ := h0; show (ns.getD 0 nd0).2.1 = 1; omega
def upL (lo : Int) (m : Nat) : List Int := (List.range m).map (fun k : Nat => lo + (k : Int))
theorem dA7 (lo : Int) (m : Nat) : upL lo (m + 1) = upL lo m ++ [lo + m] := by simp [upL, List.range_succ]
theorem dA4 (lo : Int) (m : Nat) : (upL lo m).length = m := by simp [upL]
theorem upL_mem {lo : Int} {m : Nat} {e : Int} : e ∈ upL lo m ↔ lo ≤ e ∧ e < lo + m := by
 simp only [upL, List.mem_map, List.mem_range]; constructor
 · rintro ⟨k, hk, rfl⟩; omega
 · rintro ⟨h1, h2⟩; exact ⟨(e - lo).toNat, by omega, by omega⟩
theorem jD1 {a b n k : Nat} {x : Nd} (h : LocOk a b n k x) : x.2.2.2.2.length ≤ 2 := by
 have key : ∀ T, LnE T k x → x.2.2.2.2.length ≤ 2 := by
  rintro T (⟨_, _, _, _, _, h⟩ | ⟨_, _, _, _, _, _, _, _, h⟩ | ⟨_, _, _, _, _, h⟩ | ⟨_, _, _, _, h⟩) <;> rw [h] <;> simp
 obtain ⟨_, h⟩ := h
 rcases h with ⟨_, _, _, h⟩ | ⟨_, _, _, _, h⟩ | ⟨_, _, _, _, _, _, _, h⟩ | ⟨_, _, _, _, h⟩ | ⟨_, _, _, _, _, h⟩ | ⟨_, _, _, _, h⟩ | ⟨_, _, _, _, h⟩
 · exact key _ h
 · exact key _ h
 · rw [h]; simp
 · exact key _ h
 · rw [h]; simp
 · rw [h]; simp
 · rw [h]; simp
theorem wD0 {a b n k : Nat} {x : Nd} (hn : a + 2 < n) (h : LocOk a b n k x) (hk : k < a) (h5 : x.2.1 ≠ 5) (hi : ¬ ((k : Int) + 1) ∈ x.2.2.2.2) : 1 ≤ x.2.2.2.2.length ∧ LocOk a b n k (x.1, x.2.1, x.2.2.1, x.2.2.2.1, [(k : Int) + 1] ++ x.2.2.2.2.drop 1) := by
 have hz : ZT a n k ((k : Int) + 1) := by unfold ZT; omega
 have key : LnE (ZT a n k) k x → x.2.1 ≠ 7 → 1 ≤ x.2.2.2.2.length ∧ LnE (ZT a n k) k (x.1, x.2.1, x.2.2.1, x.2.2.2.1, [(k : Int) + 1] ++ x.2.2.2.2.drop 1) := by
  intro hl h7
  rcases hl with ⟨h1, _⟩ | ⟨h1, h2, h3, e, he, e', he', hne, hex⟩ | ⟨h1, h2, h3, e, he, hex⟩ | ⟨h1, _⟩
  · exact absurd h1 h5
  · rw [hex] at hi ⊢; refine ⟨by simp, .inr (.inl ⟨h1, h2, h3, _, hz, e', he', fun q => hi (by rw [q]; simp), rfl⟩)⟩
  · rw [hex]; exact ⟨by simp, .inr (.inr (.inl ⟨h1, h2, h3, _, hz, rfl⟩))⟩
  · exact absurd h1 h7
 obtain ⟨h0, h⟩ := h
 rcases h with ⟨g0, g1, g2, hl⟩ | ⟨g0, g0', g1, g2, hl⟩ | ⟨g0, _⟩ | ⟨g0, _⟩ | ⟨g0, _⟩ | ⟨g0, g1, _⟩ | ⟨g0, g1, _⟩
 · obtain ⟨k1, k2⟩ := key hl (by omega); exact ⟨k1, h0, .inl ⟨g0, g1, g2, k2⟩⟩
 · obtain ⟨k1, k2⟩ := key hl (by omega); exact ⟨k1, h0, .inr (.inl ⟨g0, g0', g1, g2, k2⟩)⟩
 · omega
 · omega
 · omega
 · omega
 · omega
def con9 : RCon := { ps := [.p 75 ySR], rs := [.d true yLY], pre := fun (x : Src × Unit) => 0 ≤ x.1.2, rel := fun (x : Src × Unit) (y : Ly × Unit) (z : Src × Unit) => 0 ≤ z.1.2 ∧ GoodL y.1 }
theorem c9 : RCtrOk Tryz.prog 9 con9.rctr :=
 iA6 eA0 (eC c31 has31 (eC c29 has29 (eC c32 has32 (EnvOk.rcons c30 has30 (EnvOk.rcons c33 has33 eN))))) rfl Tryz.func9 rfl con9 187072309931735551802315008943644463124222635540477 (by kernel_rfl) (by decide) (by decide) rfl (by decide) rfl (by
  rintro ⟨⟨(s : List Int), (a0 : Int)⟩, _⟩ hpre hwf X hT hG hk hK; have h0 : 0 ≤ a0 := hpre
  (simp -implicitDefEqProofs (maxSteps := 4000000) only [go_sem, bP, con9, con31, con29, con32, con30, con33, hT, hG, hk, hK, Tryz.results9] at hwf ⊢); (try simp (disch := decide +kernel) only [drawn, true_and, and_true])
  clear hwf; have p1 : 0 ≤ (Src.step (s, a0)).2 := Src.step_pos' h0; have p2 := Src.step_pos' p1; have p3 := Src.step_pos' p2; have b1 := xA0 (Src.raw (s, a0)) (3 - 1 + 1) (by omega); have b2 := xA0 (Src.step (s, a0)).raw (3 - 0 + 1) (by omega); have b3 := xA0 (Src.step (s, a0)).step.raw (2 - 1 + 1) (by omega); obtain ⟨a, ea⟩ : ∃ a : Nat, 1 + goMod (Src.raw (s, a0)) (3 - 1 + 1) = a := ⟨(1 + goMod (Src.raw (s, a0)) (3 - 1 + 1)).toNat, by omega⟩; obtain ⟨b, eb⟩ : ∃ b : Nat, 0 + goMod (Src.step (s, a0)).raw (3 - 0 + 1) = b := ⟨(goMod (Src.step (s, a0)).raw (3 - 0 + 1)).toNat, by omega⟩; obtain ⟨c, ec⟩ : ∃ c : Nat, 1 + goMod (Src.step (s, a0)).step.raw (2 - 1 + 1) = c := ⟨(1 + goMod (Src.step (s, a0)).step.raw (2 - 1 + 1)).toNat, by omega⟩; simp only [ea, eb, ec]; have ha : 1 ≤ a ∧ a ≤ 3 := by omega
  have hb : b ≤ 3 := by omega
  have hc : 1 ≤ c ∧ c ≤ 2 := by omega
  obtain ⟨n, hn⟩ : ∃ n : Nat, (a : Int) + 1 + b + c + 2 = n := ⟨a + 1 + b + c + 2, by omega⟩; simp only [hn]; refine ⟨⟨h0, by decide, by decide, by decide⟩, fun _ => ⟨⟨p1, by decide, by decide, by decide⟩, fun _ => ⟨⟨p2, by decide, by decide, by decide⟩, fun _ => ⟨by omega, by omega, by omega, by omega, by omega, ?_⟩⟩⟩⟩; generalize (Src.step (s, a0)).step.step = s3 at *; refine cA0 ⟨{ q : Nat × Src × List Nd // q.1 ≤ n ∧ 0 ≤ q.2.1.2 ∧ q.2.2.length = q.1 ∧ ∀ j, j < q.1 → LocOk a b n j (q.2.2.getD j nd0) }, 1000, fun q => [(0, .one (.loc 0 0)), (2, .one (.loc 70 0)), (4, .one (.int .i64 b)), (6, .one (.int .i64 n)), (7, .one (.int .i64 a)), (8, .one (.int .i64 ((n : Int) - 2))), (9, .one (.loc 66 0)), (10, .one (.int .i64 q.1.1))], fun q => [(0, .cells 75 [.sl yI q.1.2.1.1 false, .int .i64 q.1.2.1.2]), (70, .cells 30 [.undef, .undef]), (66, .cells 30 [.row 64, .row 65]), (64, .row 56 yNO q.1.2.2), (65, .row 111 yPL [])], fun q => n - q.1.1⟩ ⟨(0, s3, []), Nat.zero_le _, p3, rfl, fun j hj => by dsimp only at hj; omega⟩ ?_ ?_
  · simp only [go_sem]; rfl
  · rintro ⟨⟨i, ⟨(s1 : List Int), (a1 : Int)⟩, (ns : List Nd)⟩, (hi : i ≤ n), (ha1 : 0 ≤ a1), (hl : ns.length = i), (hL : ∀ j, j < i → LocOk a b n j (ns.getD j nd0))⟩
    (simp -implicitDefEqProofs (maxSteps := 4000000) only [go_sem, bP, con9, con31, con29, con32, con30, con33, hT, hG, hk, hK, Tryz.results9]); (try simp (disch := decide +kernel) only [drawn, true_and, and_true])
    refine ⟨fun hlt => ⟨by omega, ?_⟩, fun hge => ?_⟩
    · refine cA0 ⟨{ m : Nat // m ≤ a - i }, 2000, fun m => [(0, .one (.loc 0 0)), (2, .one (.loc 70 0)), (4, .one (.int .i64 b)), (6, .one (.int .i64 n)), (7, .one (.int .i64 a)), (8, .one (.int .i64 ((n : Int) - 2))), (9, .one (.loc 66 0)), (10, .one (.int .i64 i)), (11, .one (.row 71)), (12, .one (.row 72)), (13, .one (.int .i64 ((i : Int) + 1 + m.1)))], fun m => [(0, .cells 75 [.sl yI s1 false, .int .i64 a1]), (70, .cells 30 [.undef, .undef]), (66, .cells 30 [.row 64, .row 65]), (64, .row 56 yNO ns), (65, .row 111 yPL []), (71, .row 3 yI (upL ((i : Int) + 1) m.1)), (72, .row 3 yI [])], fun m => a - i - m.1⟩ ⟨0, Nat.zero_le _⟩ ?_ ?_
      · simp only [go_sem]; simp only [upL, List.range_zero, List.map_nil]
        try first | rfl | (and_intros <;> first | trivial | rfl | omega)
      · rintro ⟨m, (hm : m ≤ a - i)⟩
        (simp -implicitDefEqProofs (maxSteps := 4000000) only [go_sem, bP, con9, con31, con29, con32, con30, con33, hT, hG, hk, hK, Tryz.results9]); (try simp (disch := decide +kernel) only [drawn, true_and, and_true])
        have hul := dA4 ((i : Int) + 1) m; refine ⟨fun hle => ⟨by omega, by omega, ?_⟩, fun hgt => ⟨by omega, by omega, ?_⟩⟩
        · refine dA0 ⟨m + 1, by omega⟩ ?_ (by dsimp only; omega); simp only [go_sem]; rw [dA7]
          try first | rfl | (and_intros <;> first | trivial | rfl | omega)
        · obtain ⟨Z, eZ⟩ : ∃ Z, upL ((i : Int) + 1) m ++ [(n : Int) - 2] = Z := ⟨_, rfl⟩; simp only [eZ]; have hZ : ∀ e ∈ Z, ZT a n i e := fun e he => by
           rw [← eZ, List.mem_append, upL_mem, List.mem_singleton] at he; unfold ZT; omega
          have hZl : 0 < Z.length ∧ Z.length ≤ 1000 := by rw [← eZ, List.length_append, hul]; simp only [List.length_cons, List.length_nil]; omega
          have hZ0 : ∀ e ∈ Z, 0 ≤ e := fun e he => by have := hZ e he; unfold ZT at this; omega
          clear eZ; obtain ⟨M, hM⟩ : ∃ M : Nat, (if (a : Int) > (i : Int) then (a : Int) else (i : Int)) = M := ⟨max a i, by split <;> omega⟩; have hM' : a ≤ M ∧ i ≤ M ∧ (M = a ∨ M = i) := by split at hM <;> omega
          simp only [hM]; clear hM; refine cA0 ⟨{ k : Nat // k ≤ n - 2 - (M + 1) }, 3000, fun k => [(0, .one (.loc 0 0)), (2, .one (.loc 70 0)), (4, .one (.int .i64 b)), (6, .one (.int .i64 n)), (7, .one (.int .i64 a)), (8, .one (.int .i64 ((n : Int) - 2))), (9, .one (.loc 66 0)), (10, .one (.int .i64 i)), (11, .one (.row 71)), (12, .one (.row 72)), (14, .one (.int .i64 ((M : Int) + 1 + k.1)))], fun k => [(0, .cells 75 [.sl yI s1 false, .int .i64 a1]), (70, .cells 30 [.undef, .undef]), (66, .cells 30 [.row 64, .row 65]), (64, .row 56 yNO ns), (65, .row 111 yPL []), (71, .row 3 yI Z), (72, .row 3 yI (upL ((M : Int) + 1) k.1))], fun k => n - 2 - (M + 1) - k.1⟩ ⟨0, Nat.zero_le _⟩ ?_ ?_
          · simp only [go_sem]; simp only [upL, List.range_zero, List.map_nil]
            try first | rfl | (and_intros <;> first | trivial | rfl | omega)
          · rintro ⟨k, (hkk : k ≤ n - 2 - (M + 1))⟩
            (simp -implicitDefEqProofs (maxSteps := 4000000) only [go_sem, bP, con9, con31, con29, con32, con30, con33, hT, hG, hk, hK, Tryz.results9]); (try simp (disch := decide +kernel) only [drawn, true_and, and_true])
            have huk := dA4 ((M : Int) + 1) k; refine ⟨fun hle => ⟨by omega, by omega, ?_⟩, fun hgt => ⟨by omega, by omega, ?_⟩⟩
            · refine dA0 ⟨k + 1, by omega⟩ ?_ (by dsimp only; omega); simp only [go_sem]; rw [dA7]
              try first | rfl | (and_intros <;> first | trivial | rfl | omega)
            · obtain ⟨O, eO⟩ : ∃ O, upL ((M : Int) + 1) k ++ [(n : Int) - 1] = O := ⟨_, rfl⟩; simp only [eO]; have hO : ∀ e ∈ O, OT a n i e := fun e he => by
               rw [← eO, List.mem_append, upL_mem, List.mem_singleton] at he; unfold OT; omega
              have hOl : 0 < O.length ∧ O.length ≤ 1000 := by rw [← eO, List.length_append, huk]; simp only [List.length_cons, List.length_nil]; omega
              have hO0 : ∀ e ∈ O, 0 ≤ e := fun e he => by have := hO e he; unfold OT at this; omega
              clear eO; have step : ∀ x, LocOk a b n i x → ∀ j, j < i + 1 → LocOk a b n j ((ns ++ [x]).getD j nd0) := fun x hx j hj => by
               by_cases h : j < i
               · have := hL j h
                 rwa [gdE, List.getElem?_append_left (by omega), ← gdE]
               · obtain rfl : j = i := by omega
                 rw [gdE, List.getElem?_append_right (by omega), show j - ns.length = 0 by omega]; exact hx
              have hlen : ∀ x : Nd, (ns ++ [x]).length = i + 1 := fun x => by rw [List.length_append, hl]; rfl
              have q1 : 0 ≤ (Src.step (s1, a1)).2 := Src.step_pos' ha1; have q2 := Src.step_pos' q1; have bO := xA0 (Src.step (s1, a1)).raw O.length (by omega); have bL := xA0 (Src.raw (s1, a1)) (3 - 1 + 1) (by omega); have mO : O.getD (goMod (Src.step (s1, a1)).raw O.length).toNat 0 ∈ O := by
               rw [gdE, List.getElem?_eq_getElem (by omega)]; exact List.getElem_mem _
              generalize O.getD (goMod (Src.step (s1, a1)).raw O.length).toNat 0 = eo at *; generalize goMod (Src.step (s1, a1)).raw O.length = go at *; generalize goMod (Src.raw (s1, a1)) (3 - 1 + 1) = gl at *; have strZ : ∀ (K : List Int) (y : Nd), StripR K i 0 Z y → LnE (ZT a n i) i (strOf [65 + (i : Int)], y.2) ∨ ¬ (∀ k ∈ K, k = 1 ∨ k = 2 ∨ k = 3 ∨ k = 4 ∨ k = 5) := fun K y hy => by
               by_cases hK : ∀ k ∈ K, k = 1 ∨ k = 2 ∨ k = 3 ∨ k = 4 ∨ k = 5
               · left; obtain ⟨_, _, hy⟩ := hy
                 rcases hy with ⟨h1, _, h2, h3, e, he, hex⟩ | ⟨h1, _, h2, h3, e, he, e', he', hne, hex⟩ | ⟨h1, h2, h3, e, he, hex⟩
                 · exact .inl ⟨h1, h2, h3, e, hZ e he, hex⟩
                 · exact .inr (.inl ⟨h1, h2, h3, e, hZ e he, e', hZ e' he', hne, hex⟩)
                 · refine .inr (.inr (.inl ⟨?_, h2, h3, e, hZ e he, hex⟩))
                   rcases h1 with ⟨h1, h4, h5⟩ | ⟨_, h1⟩
                   · have := hK _ h1; dsimp only; omega
                   · exact .inr (.inl h1)
               · exact .inr hK
              refine ⟨fun e0 => ⟨⟨ha1, hZl.1, hZl.2, hZ0⟩, fun w hw => ⟨by omega, by omega, by omega, by omega, ?_⟩⟩, fun ne0 => ⟨fun lta => ⟨⟨ha1, hZl.1, hZl.2, hZ0⟩, fun w hw => ⟨by omega, by omega, by omega, by omega, ?_⟩⟩, fun nlta => ⟨fun eqa => ⟨⟨ha1, by decide, by decide, by decide⟩, fun _ _ => ⟨q1, fun _ => ⟨bO, fun _ => ⟨bO, fun _ => ⟨by omega, by omega, by omega, by omega, ?_⟩⟩⟩⟩⟩, ?_⟩⟩⟩
              · obtain ⟨⟨w1, w2⟩, _⟩ := hw; refine dA0 ⟨(i + 1, w.2.1, ns ++ [(strOf [65 + (i : Int)], w.1.1.2)]), by dsimp only; omega, w1, hlen _, step _ ⟨rfl, .inl ⟨by omega, ?_, w2.2.1, (strZ _ _ w2).resolve_right (by simp)⟩⟩⟩ ?_ (by dsimp only; omega)
                · have := w2.2.2; simp only [List.mem_singleton] at this; dsimp only; omega
                · simp only [go_sem]; rfl
              · obtain ⟨⟨w1, w2⟩, _⟩ := hw; refine dA0 ⟨(i + 1, w.2.1, ns ++ [(strOf [65 + (i : Int)], w.1.1.2)]), by dsimp only; omega, w1, hlen _, step _ ⟨rfl, .inr (.inl ⟨by omega, by omega, ?_, w2.2.1, (strZ _ _ w2).resolve_right (by simp)⟩)⟩⟩ ?_ (by dsimp only; omega)
                · have := w2.2.2; simp only [List.mem_cons, List.not_mem_nil, or_false] at this; dsimp only; omega
                · simp only [go_sem]; rfl
              · refine dA0 ⟨(i + 1, (Src.step (s1, a1)).step, ns ++ [(strOf [65 + (i : Int)], 6, 1 + gl, 0, [(n : Int) - 2, eo])]), by dsimp only; omega, q2, hlen _, step _ ⟨rfl, .inr (.inr (.inl ⟨by omega, rfl, rfl, by dsimp only; omega, by dsimp only; omega, eo, hO _ mO, rfl⟩))⟩⟩ ?_ (by dsimp only; omega); simp only [go_sem]; rfl
              · have strO : ∀ (y : Nd), StripR [2, 4, 5, 7] i 1 O y → (y.2.1 = 7 → LnE (OT a n i) i (strOf [65 + (i : Int)], y.2.1, 0, y.2.2.2)) ∧ (¬ y.2.1 = 7 → LnE (OT a n i) i (strOf [65 + (i : Int)], y.2)) ∧ (y.2.1 = 2 ∨ y.2.1 = 4 ∨ y.2.1 = 5 ∨ y.2.1 = 7) := fun y hy => by
                 obtain ⟨_, _, hy⟩ := hy; simp only [List.mem_cons, List.not_mem_nil, or_false] at hy
                 rcases hy with ⟨h1, _, h2, h3, e, he, hex⟩ | ⟨h1, _, h2, h3, e, he, e', he', hne, hex⟩ | ⟨h1, h2, h3, e, he, hex⟩
                 · exact ⟨fun k => by omega, fun _ => .inl ⟨h1, h2, h3, e, hO e he, hex⟩, by omega⟩
                 · exact ⟨fun k => by omega, fun _ => .inr (.inl ⟨h1, h2, h3, e, hO e he, e', hO e' he', hne, hex⟩), by omega⟩
                 · exact ⟨fun k => .inr (.inr (.inr ⟨k, rfl, e, hO e he, hex⟩)), fun k => .inr (.inr (.inl ⟨by dsimp only; omega, h2, h3, e, hO e he, hex⟩)), by omega⟩
                refine fun _ => ⟨by omega, by omega, fun ltb => ⟨⟨ha1, hOl.1, hOl.2, hO0⟩, fun w hw => ⟨fun k7 => ⟨by omega, by omega, by omega, by omega, ?_⟩, fun k7 => ⟨by omega, by omega, by omega, by omega, ?_⟩⟩⟩, fun nltb => ⟨fun ltm => ⟨by omega, by omega, by omega, by omega, ?_⟩, fun nltm => ⟨by omega, by omega, by omega, by omega, by omega, ?_⟩⟩⟩
                · obtain ⟨⟨w1, w2⟩, _⟩ := hw; obtain ⟨g1, g2, g3⟩ := strO _ w2; refine dA0 ⟨(i + 1, w.2.1, ns ++ [(strOf [65 + (i : Int)], w.1.1.2.1, 0, w.1.1.2.2.2)]), by dsimp only; omega, w1, hlen _, step _ ⟨rfl, .inr (.inr (.inr (.inl ⟨by omega, by omega, g3, w2.2.1, g1 k7⟩)))⟩⟩ ?_ (by dsimp only; omega); simp only [go_sem]; rfl
                · obtain ⟨⟨w1, w2⟩, _⟩ := hw; obtain ⟨g1, g2, g3⟩ := strO _ w2; refine dA0 ⟨(i + 1, w.2.1, ns ++ [(strOf [65 + (i : Int)], w.1.1.2)]), by dsimp only; omega, w1, hlen _, step _ ⟨rfl, .inr (.inr (.inr (.inl ⟨by omega, by omega, g3, w2.2.1, g2 k7⟩)))⟩⟩ ?_ (by dsimp only; omega); simp only [go_sem]; rfl
                · refine dA0 ⟨(i + 1, (s1, a1), ns ++ [(strOf [65 + (i : Int)], 8, 0, 1, [])]), by dsimp only; omega, ha1, hlen _, step _ ⟨rfl, .inr (.inr (.inr (.inr (.inl ⟨by omega, by omega, rfl, rfl, rfl, rfl⟩))))⟩⟩ ?_ (by dsimp only; omega); simp only [go_sem]; rfl
                · refine dA0 ⟨(i + 1, (s1, a1), ns ++ [(strOf [65 + (i : Int)], 9, 0, (i : Int) - ((n : Int) - 2), [])]), by dsimp only; omega, ha1, hlen _, step _ ⟨rfl, ?_⟩⟩ ?_ (by dsimp only; omega)
                  · by_cases h : i + 2 = n
                    · exact .inr (.inr (.inr (.inr (.inr (.inl ⟨h, rfl, rfl, by dsimp only; omega, rfl⟩)))))
                    · exact .inr (.inr (.inr (.inr (.inr (.inr ⟨by omega, rfl, rfl, by dsimp only; omega, rfl⟩)))))
                  · simp only [go_sem]; rfl
    · have hin : i = n := by omega
      subst hin; have p4 : 0 ≤ (Src.step (s1, a1)).2 := Src.step_pos' ha1; have bG := xA0 (Src.raw (s1, a1)) 4 (by omega); have good : ∀ ns' : List Nd, ns'.length = i → (∀ j, j < i → LocOk a b i j (ns'.getD j nd0)) → (ns'.length ≤ 1000 ∧ ∀ y ∈ ns', y.2.2.1 ≤ 1000) ∧ ∀ ds, DevR ns' ds → GoodL (ns', ds) := fun ns' h1 h2 => by
       refine ⟨⟨by omega, fun y hy => ?_⟩, fun ds hd => oC6 (a := a) (b := b) (n := i) (by omega) (by omega) ha.1 h1 h2 hd⟩; obtain ⟨k, hkl, rfl⟩ := List.getElem_of_mem hy; have := (h2 k (by omega)).le; rw [show ns'.getD k nd0 = ns'[k] by simp [hkl]] at this; omega
      refine ⟨ha1, fun _ => ⟨fun hg => ?_, fun hg => ?_⟩⟩
      · generalize Src.step (s1, a1) = s4 at *; refine cA0 ⟨{ q : Nat × List Nd // q.1 ≤ a ∧ q.2.length = i ∧ ∀ j, j < i → LocOk a b i j (q.2.getD j nd0) }, 2000, fun q => [(0, .one (.loc 0 0)), (2, .one (.loc 70 0)), (7, .one (.int .i64 a)), (9, .one (.loc 66 0)), (16, .one (.int .i64 q.1.1))], fun q => [(0, .cells 75 [.sl yI s4.1 false, .int .i64 s4.2]), (70, .cells 30 [.undef, .undef]), (66, .cells 30 [.row 64, .row 65]), (64, .row 56 yNO q.1.2), (65, .row 111 yPL [])], fun q => a - q.1.1⟩ ⟨(0, ns), Nat.zero_le _, hl, hL⟩ ?_ ?_
        · simp only [go_sem]; rfl
        · rintro ⟨⟨k, (ns : List Nd)⟩, (hka : k ≤ a), (hl : ns.length = i), (hL : ∀ j, j < i → LocOk a b i j (ns.getD j nd0))⟩
          (simp -implicitDefEqProofs (maxSteps := 4000000) only [go_sem, bP, con9, con31, con29, con32, con30, con33, hT, hG, hk, hK, Tryz.results9]); (try simp (disch := decide +kernel) only [drawn, true_and, and_true])
          obtain ⟨g1, g2⟩ := good ns hl hL; refine ⟨fun hlt => ?_, fun hge => ?_⟩
          · have hk' : k < ns.length := by omega
            have ek : ∀ z, ns.getD (k : Int).toNat z = ns[k] := fun z => by simp [hk']
            have hLk := hL k (by omega); rw [show ns.getD k nd0 = ns[k] by simp [hk']] at hLk; have e1 : ∀ l : List Int, List.drop (Int.toNat 1) (List.take (↑l.length : Int).toNat l) = l.drop 1 := fun l => by rw [Int.toNat_natCast, List.take_length]; rfl
            have e2 : (k : Int).toNat = k := Int.toNat_natCast k; simp only [ek, e1]; simp only [e2]; have hx : ∀ x, LocOk a b i k x → ∀ j, j < i → LocOk a b i j ((ns.set k x).getD j nd0) := fun x hx j hj => by
             rw [gdE, List.getElem?_set]; by_cases h : k = j
             · subst h; rw [if_pos rfl, if_pos hk']; exact hx
             · rw [if_neg h, ← gdE]; exact hL j hj
            have hset : ns[k].2.1 ≠ 5 → (ns[k].2.2.2.2.any fun y => decide ((k : Int) + 1 = y)) = false → 1 ≤ ns[k].2.2.2.2.length ∧ LocOk a b i k (ns[k].1, ns[k].2.1, ns[k].2.2.1, ns[k].2.2.2.1, ((k : Int) + 1) :: ns[k].2.2.2.2.drop 1) := fun h1 h2 => wD0 (by omega) hLk (by omega) h1 (fun h => by
             have : (ns[k].2.2.2.2.any fun y => decide ((k : Int) + 1 = y)) = true := List.any_eq_true.2 ⟨_, h, by simp⟩; rw [h2] at this; cases this)
            refine ⟨by omega, fun _ => ⟨by omega, fun hw5 => ⟨fun _ => by omega, fun _ => ⟨fun _ => by omega, fun _ => ⟨fun _ => by omega, fun hA => ?_, fun hB => ⟨by omega, ?_⟩⟩⟩⟩⟩⟩
            · obtain ⟨s1', s2'⟩ := hset hA.1 hA.2; have hdl : (ns[k].2.2.2.2.drop 1).length ≤ ns[k].2.2.2.2.length := by rw [List.length_drop]; omega
              refine ⟨by omega, by omega, fun _ => ⟨by omega, fun _ => ⟨⟨by omega, by omega, by omega⟩, ?_, by omega, fun _ => ⟨by omega, by omega, ?_⟩⟩⟩⟩
              · have := jD1 hLk; omega
              · refine dA0 ⟨(k + 1, ns.set k _), by dsimp only; omega, by rw [List.length_set]; exact hl, hx _ s2'⟩ ?_ (by dsimp only; omega); simp only [go_sem]; rfl
            · refine dA0 ⟨(k + 1, ns), by dsimp only; omega, hl, hL⟩ ?_ (by dsimp only; omega); simp only [go_sem]; rfl
          · refine ⟨⟨p4, g1⟩, fun w hw => ⟨((ns, w.1.1), ()), (w.2.1, ()), ⟨hw.1.1, g2 _ hw.1.2⟩, rfl, rfl, rfl, rfl⟩⟩
      · obtain ⟨g1, g2⟩ := good ns hl hL; refine ⟨⟨p4, g1⟩, fun w hw => ⟨((ns, w.1.1), ()), (w.2.1, ()), ⟨hw.1.1, g2 _ hw.1.2⟩, rfl, rfl, rfl, rfl⟩⟩)
def con117 : Con := { ps := [.d false (.int .u8)], rs := [.d false .bool], pre := fun _ => True, out := fun (x : Int × Unit) => (decide (65 ≤ x.1) && decide (x.1 ≤ 90), ()), nw := id }
theorem c117 : CtrOk Tryz.prog 117 con117.ctr :=
 aA0 eA0 eN rfl Tryz.func117 rfl con117 5 (by kernel_rfl) (by decide) (by decide) rfl (by decide) rfl (by
  rintro ⟨(c : Int), _⟩ hpre hwf X hT hG hk hK
  (simp -implicitDefEqProofs (maxSteps := 4000000) only [go_sem, con117, hT, hG, hk, hK, Tryz.results117] at hwf ⊢))
def con118 : Con := { ps := [.d false (.int .u8)], rs := [.d false .bool], pre := fun _ => True, out := fun (x : Int × Unit) => (decide (48 ≤ x.1) && decide (x.1 ≤ 57), ()), nw := id }
theorem c118 : CtrOk Tryz.prog 118 con118.ctr :=
 aA0 eA0 eN rfl Tryz.func118 rfl con118 5 (by kernel_rfl) (by decide) (by decide) rfl (by decide) rfl (by
  rintro ⟨(c : Int), _⟩ hpre hwf X hT hG hk hK
  (simp -implicitDefEqProofs (maxSteps := 4000000) only [go_sem, con118, hT, hG, hk, hK, Tryz.results118] at hwf ⊢))
theorem zA2 (c : Int) : (strOf [c]).size = 1 := rfl
theorem pA8 {c : Int} (h : 65 ≤ c ∧ c ≤ 90) : byteAt (strOf [c]) 0 = c := by
 have e : byteAt (strOf [c]) 0 = ((UInt8.ofNat c.toNat).toNat : Int) := rfl; rw [e, UInt8.toNat_ofNat']; omega
def Nm1 (s : ByteArray) : Prop := ∃ c : Int, 65 ≤ c ∧ c ≤ 90 ∧ s = strOf [c]
def con97 : Con := { ps := [.d false .str], rs := [.d false .bool], pre := fun (x : ByteArray × Unit) => Nm1 x.1, out := fun _ => (true, ()), nw := id }
theorem c97 : CtrOk Tryz.prog 97 con97.ctr :=
 aA0 eA0 (eC c117 has117 (eC c118 has118 eN)) rfl Tryz.func97 rfl con97 34361966605 (by kernel_rfl) (by decide) (by decide) rfl (by decide) rfl (by
  rintro ⟨(s : ByteArray), _⟩ hpre hwf X hT hG hk hK; obtain ⟨c, h1, h2, rfl⟩ : Nm1 s := hpre
  (simp -implicitDefEqProofs (maxSteps := 4000000) only [go_sem, bP, con97, con117, con118, hT, hG, hk, hK, Tryz.results97] at hwf ⊢)
  clear hwf; have e0 := pA8 (c := c) ⟨h1, h2⟩; simp only [zA2]; simp only [e0]
  (repeat' with_reducible first | refine And.intro ?_ ?_ | intro _) <;> try first | with_reducible (first | assumption | omega | contradiction) | decide
  · refine cA0 ⟨{ i : Nat // i ≤ 1 }, 1000, fun i => [(0, .one (.str (strOf [c]))), (3, .one (.int .i64 i.1))], fun i => [], fun i => 1 - i.1⟩ ⟨0, Nat.zero_le _⟩ ?_ ?_
    · simp only [go_sem]; rfl
    · rintro ⟨i, (hi : i ≤ 1)⟩
      (simp -implicitDefEqProofs (maxSteps := 4000000) only [go_sem, bP, con97, con117, con118, hT, hG, hk, hK, Tryz.results97])
      simp only [zA2]
      · intro _ hlt; have : i = 0 := by omega
        subst this; have e1 : byteAt (strOf [c]) ((0 : Nat) : Int) = c := e0; simp only [e1]
        (repeat' with_reducible first | refine And.intro ?_ ?_ | intro _) <;> try first | with_reducible (first | assumption | omega | contradiction) | decide
        refine dA0 ⟨1, by omega⟩ ?_ (by dsimp only; omega); simp only [go_sem]; rfl)
def con23 : Con := { ps := [.d false yI], rs := [.d false .bool], pre := fun _ => True, out := fun (x : Int × Unit) => (strN x.1, ()), nw := id }
theorem c23 : CtrOk Tryz.prog 23 con23.ctr :=
 aA0 eA0 eN rfl Tryz.func23 rfl con23 5 (by kernel_rfl) (by decide) (by decide) rfl (by decide) rfl (by
  rintro ⟨(c : Int), _⟩ hpre hwf X hT hG hk hK
  (simp -implicitDefEqProofs (maxSteps := 4000000) only [go_sem, con23, hT, hG, hk, hK, Tryz.results23] at hwf ⊢)
  simp [strN])
def con41 : Con := { ps := [.d false yI], rs := [.d false yI], pre := fun _ => True, out := fun (x : Int × Unit) => ((exN x.1 : Int), ()), nw := id }
theorem c41 : CtrOk Tryz.prog 41 con41.ctr :=
 aA0 eA0 eN rfl Tryz.func41 rfl con41 285 (by kernel_rfl) (by decide) (by decide) rfl (by decide) rfl (by
  rintro ⟨(c : Int), _⟩ hpre hwf X hT hG hk hK
  (simp -implicitDefEqProofs (maxSteps := 4000000) only [go_sem, bP, con41, hT, hG, hk, hK, Tryz.results41] at hwf ⊢)
  unfold exN
  (repeat' with_reducible first | refine And.intro ?_ ?_ | intro _) <;> try first | with_reducible (first | assumption | omega | contradiction) | decide
  all_goals first
   | (rw [if_pos (by omega)]; rfl)
   | (rw [if_neg (by omega), if_pos (by omega)]; rfl)
   | (rw [if_neg (by omega), if_neg (by omega)]; rfl)
   | (exfalso; omega))
def con92 : Con := { ps := [.d false yI, .d false yI, .d false yI], rs := [.d false .bool], pre := fun _ => True, out := fun (x : Int × Int × Int × Unit) => (decide (x.2.1 ≤ x.1) && decide (x.1 ≤ x.2.2.1), ()), nw := id }
theorem c92 : CtrOk Tryz.prog 92 con92.ctr :=
 aA0 eA0 eN rfl Tryz.func92 rfl con92 71 (by kernel_rfl) (by decide) (by decide) rfl (by decide) rfl (by
  rintro ⟨(a : Int), (b : Int), (c : Int), _⟩ hpre hwf X hT hG hk hK
  (simp -implicitDefEqProofs (maxSteps := 4000000) only [go_sem, con92, hT, hG, hk, hK, Tryz.results92] at hwf ⊢))
def totV (ns : List Nd) : Int := (ns.map (fun x => x.2.2.1)).sum
theorem cB4 {ns : List Nd} {i : Nat} (h : i < ns.length) : totV (ns.take (i + 1)) = totV (ns.take i) + ns[i].2.2.1 := by
 unfold totV; rw [tsE h, List.map_append, List.sum_append]; simp
theorem mC3 {ns : List Nd} (h : ∀ y ∈ ns, 0 ≤ y.2.2.1 ∧ y.2.2.1 ≤ 8) : 0 ≤ totV ns ∧ totV ns ≤ 8 * ns.length := by
 unfold totV
 induction ns with
 | nil => simp
 | cons y ns ih =>
   have h1 := h y List.mem_cons_self; have h2 := ih fun z hz => h z (List.mem_cons_of_mem _ hz); simp only [List.map_cons, List.sum_cons, List.length_cons]; omega
theorem GoodL.le8 {l : Ly} (h : GoodL l) : ∀ y ∈ l.1, 0 ≤ y.2.2.1 ∧ y.2.2.1 ≤ 8 := by
 intro y hy; obtain ⟨i, hi, rfl⟩ := List.getElem_of_mem hy; have g := h.nd i hi; have e : l.1.getD i nd0 = l.1[i] := by simp [hi]
 cases hs : strN (l.1[i]).2.1 with
 | true => have := g.ln (by rw [e]; exact hs); rw [e] at this; omega
 | false => have := g.l0 (by rw [e]; exact hs); rw [e] at this; omega
def con52 : Con := { ps := [.d true yLY], rs := [.d false yI], pre := fun (x : Ly × Unit) => GoodL x.1, out := fun (x : Ly × Unit) => (totV x.1.1, ()), nw := id }
theorem c52 : CtrOk Tryz.prog 52 con52.ctr :=
 aA0 eA0 eN rfl Tryz.func52 rfl con52 543 (by kernel_rfl) (by decide) (by decide) rfl (by decide) rfl (by
  rintro ⟨⟨(ns : List Nd), (ds : List Dv)⟩, _⟩ hpre hwf X hT hG hk hK; have hg : GoodL (ns, ds) := hpre
  (simp -implicitDefEqProofs (maxSteps := 4000000) only [go_sem, bP, con52, hT, hG, hk, hK, Tryz.results52] at hwf ⊢)
  clear hwf; have h8 := hg.le8; refine cA0 ⟨{ i : Nat // i ≤ ns.length }, 1000, fun i => [(1, .one (.loc 64 0)), (3, .one (.int .i64 (totV (ns.take i.1)))), (4, .one (.int .i64 i.1))], fun i => [(64, .cells 30 [.sl yNO ns false, .sl yPL ds false])], fun i => ns.length - i.1⟩ ⟨0, Nat.zero_le _⟩ ?_ ?_
  · simp only [go_sem]
    try first | rfl | (and_intros <;> first | trivial | rfl | omega)
  · rintro ⟨i, (hi : i ≤ ns.length)⟩
    (simp -implicitDefEqProofs (maxSteps := 4000000) only [go_sem, bP, con52, hT, hG, hk, hK, Tryz.results52])
    have hb := mC3 (ns := ns.take i) (fun y hy => h8 y (List.mem_of_mem_take hy)); rw [List.length_take] at hb; have hn24 := hg.n24; dsimp only at hn24; refine fun _ => ⟨fun hlt => ?_, fun hge => ?_⟩
    · have hi' : i < ns.length := by omega
      have ek : ∀ z, ns.getD (i : Int).toNat z = ns[i] := fun z => by simp [hi']
      simp only [ek]; have h8i := h8 _ (List.getElem_mem hi'); have hst := cB4 hi'
      (repeat' with_reducible first | refine And.intro ?_ ?_ | intro _) <;> try first | with_reducible (first | assumption | omega | contradiction) | decide
      refine dA0 ⟨i + 1, by omega⟩ ?_ (by dsimp only; omega); simp only [go_sem]; rw [hst]
      try first | rfl | (and_intros <;> first | trivial | rfl | omega)
    · rw [List.take_of_length_le (by omega)]
      try first | rfl | (and_intros <;> first | trivial | rfl | omega))
def idxV {α : Type} (p : α → Bool) (l : List α) : Int := if l.findIdx p < l.length then (l.findIdx p : Int) else -1
theorem vA1 {α : Type} {p : α → Bool} {l : List α} {i : Nat} (h : i < l.length) (h1 : p l[i] = true) (h2 : ∀ k (hk : k < i), p (l[k]'(by omega)) = false) : idxV p l = i := by
 have : l.findIdx p = i := by rw [List.findIdx_eq h]; exact ⟨h1, h2⟩
 unfold idxV; rw [this, if_pos h]
theorem mA1 {α : Type} {p : α → Bool} {l : List α} (h : ∀ k (hk : k < l.length), p l[k] = false) : idxV p l = -1 := by
 unfold idxV; rw [if_neg]; rw [Nat.not_lt]; refine Nat.le_of_eq (Eq.symm (List.findIdx_eq_length.2 fun x hx => ?_)); obtain ⟨k, hk, rfl⟩ := List.getElem_of_mem hx; exact h k hk
def con59 : Con := { ps := [.d true yLY, .d false .str], rs := [.d false yI], pre := fun _ => True, out := fun (x : Ly × ByteArray × Unit) => (idxV (fun y : Nd => decide (y.1 = x.2.1)) x.1.1, ()), nw := id }
theorem c59 : CtrOk Tryz.prog 59 con59.ctr :=
 aA0 eA0 eN rfl Tryz.func59 rfl con59 1049655 (by kernel_rfl) (by decide) (by decide) rfl (by decide) rfl (by
  rintro ⟨⟨(ns : List Nd), (ds : List Dv)⟩, (s : ByteArray), _⟩ hpre hwf X hT hG hk hK
  (simp -implicitDefEqProofs (maxSteps := 4000000) only [go_sem, bP, con59, hT, hG, hk, hK, Tryz.results59] at hwf ⊢)
  clear hwf; refine cA0 ⟨{ i : Nat // i ≤ ns.length ∧ ∀ k (hk : k < i) (hk' : k < ns.length), ns[k].1 ≠ s }, 1000, fun i => [(1, .one (.str s)), (2, .one (.loc 64 0)), (5, .one (.int .i64 i.1))], fun i => [(64, .cells 30 [.sl yNO ns false, .sl yPL ds false])], fun i => ns.length - i.1⟩ ⟨0, Nat.zero_le _, fun k hk => by omega⟩ ?_ ?_
  · simp only [go_sem]; rfl
  · rintro ⟨i, (hi : i ≤ ns.length), hz⟩
    (simp -implicitDefEqProofs (maxSteps := 4000000) only [go_sem, bP, con59, hT, hG, hk, hK, Tryz.results59])
    refine fun _ => ⟨fun hlt => ?_, fun hge => ?_⟩
    · have hi' : i < ns.length := by omega
      have ek : ∀ z, ns.getD (i : Int).toNat z = ns[i] := fun z => by simp [hi']
      simp only [ek]
      (repeat' with_reducible first | refine And.intro ?_ ?_ | intro _) <;> try first | with_reducible (first | assumption | omega | contradiction) | decide
      · rw [vA1 hi' (by simpa) (fun k hk => by simpa using hz k hk (by omega))]
      · refine dA0 ⟨i + 1, by omega, fun k hk hk' => ?_⟩ ?_ (by dsimp only; omega)
        · by_cases e : k = i
          · subst e; assumption
          · exact hz k (by omega) hk'
        · simp only [go_sem]; rfl
    · rw [mA1 fun k hk => by simpa using hz k (by omega) hk])
theorem GoodL.find {l : Ly} (h : GoodL l) {i : Nat} (hi : i < l.1.length) : idxV (fun y : Nd => decide (y.1 = (l.1[i]).1)) l.1 = i := by
 refine vA1 hi (by simp) fun k hk => ?_; rw [decide_eq_false_iff_not]; intro e; have := h.nmd k i (by omega) hi (by rw [show l.1.getD k nd0 = l.1[k] by simp [show k < l.1.length by omega], show l.1.getD i nd0 = l.1[i] by simp [hi]]; exact e); omega
def con113 : Con := { ps := [.d true yLY, .d false yI, .d false yI], rs := [.d false .bool], pre := fun (x : Ly × Int × Int × Unit) => 0 ≤ x.2.1 ∧ x.2.1 < x.1.1.length, out := fun (x : Ly × Int × Int × Unit) => (decide (x.2.1 ≠ x.2.2.1) && (x.1.1.getD x.2.1.toNat nd0).2.2.2.2.any (fun y => decide (x.2.2.1 = y)), ()), nw := id }
theorem c113 : CtrOk Tryz.prog 113 con113.ctr :=
 aA0 eA0 (eC c32 has32 eN) rfl Tryz.func113 rfl con113 79 (by kernel_rfl) (by decide) (by decide) rfl (by decide) rfl (by
  rintro ⟨⟨(ns : List Nd), (ds : List Dv)⟩, (a : Int), (b : Int), _⟩ hpre hwf X hT hG hk hK; obtain ⟨h1, h2⟩ : 0 ≤ a ∧ a < ns.length := hpre
  (simp -implicitDefEqProofs (maxSteps := 4000000) only [go_sem, bP, con113, con32, hT, hG, hk, hK, Tryz.results113] at hwf ⊢)
  clear hwf; refine ⟨fun _ => ⟨h1, h2⟩, fun _ _ => rfl⟩)
theorem gA5 {ns : List Nd} {i : Nat} (h : i < ns.length) : ns.getD i nd0 = ns[i] := by simp [h]
structure NdAt (ns : List Nd) (i : Nat) (x : Nd) : Prop where
 kd : 1 ≤ x.2.1 ∧ x.2.1 ≤ 9
 ln : strN x.2.1 = true → 1 ≤ x.2.2.1 ∧ x.2.2.1 ≤ 8
 lo : x.2.1 = 5 → 2 ≤ x.2.2.1
 l0 : strN x.2.1 = false → x.2.2.1 = 0
 zn : x.2.2.2.1 = 0 ∨ x.2.2.2.1 = 1
 ex : x.2.2.2.2.length = exN x.2.1
 fw : ∀ (k : Nat) (h : k < x.2.2.2.2.length), ((x.2.1 = 5 ∧ k = 0) ∧ x.2.2.2.2[k] = i) ∨ (¬ (x.2.1 = 5 ∧ k = 0) ∧ (i : Int) < x.2.2.2.2[k] ∧ x.2.2.2.2[k] < ns.length)
 ne : x.2.2.2.2.length = 2 → x.2.2.2.2.getD 0 0 ≠ x.2.2.2.2.getD 1 0
 z0 : x.2.1 = 1 ∨ x.2.1 = 3 ∨ x.2.1 = 6 → x.2.2.2.1 = 0
 z1 : x.2.1 = 7 ∨ x.2.1 = 8 → x.2.2.2.1 = 1
 zz : ∀ (k : Nat) (h : k < x.2.2.2.2.length), (ns.getD (x.2.2.2.2[k]).toNat nd0).2.1 ≠ 1 ∧ (ns.getD (x.2.2.2.2[k]).toNat nd0).2.2.2.1 = if x.2.1 = 6 ∧ k = 1 then 1 else x.2.2.2.1
 nm : Nm1 x.1
theorem GoodL.at {l : Ly} (h : GoodL l) {i : Nat} (hi : i < l.1.length) : NdAt l.1 i l.1[i] := by
 have g := h.nd i hi; have e : l.1.getD i nd0 = l.1[i] := gA5 hi; obtain ⟨g1, g2, g3, g4, g5, g6, g7, g8, g9, g10, g11⟩ := g; simp only [e] at *; refine ⟨g1, g2, g3, g4, g5, g6, fun k hk => g7 k _ (List.getElem?_eq_getElem hk), fun h2 => ?_, g9, g10, fun k hk => g11 k _ (List.getElem?_eq_getElem hk), ?_⟩
 · intro he; rw [gdE, gdE, List.getElem?_eq_getElem (by omega), List.getElem?_eq_getElem (by omega)] at he; exact g8 (l.1[i].2.2.2.2[0]) (l.1[i].2.2.2.2[1]) (by
    apply List.ext_getElem
    · exact h2
    · intro k h1 h3
      match k, h3 with
      | 0, _ => rfl
      | 1, _ => rfl) he
 · obtain ⟨c, h1, h2, h3⟩ := h.nm i hi; rw [gA5 hi] at h3; exact ⟨c, h1, h2, h3⟩
theorem yC7 {k : Int} : (strN k = true) = (1 ≤ k ∧ k ≤ 6) := by simp [strN]
theorem fD2 {k : Int} : (strN k = false) = ¬ (1 ≤ k ∧ k ≤ 6) := by rw [← yC7]; simp
theorem nD1 {k : Int} {n : Nat} (h : n = exN k) : (n = 2 ∧ (k = 4 ∨ k = 5 ∨ k = 6)) ∨ (n = 0 ∧ (k = 8 ∨ k = 9)) ∨ (n = 1 ∧ k ≠ 4 ∧ k ≠ 5 ∧ k ≠ 6 ∧ k ≠ 8 ∧ k ≠ 9) := by
 unfold exN at h; split at h
 · exact .inl ⟨h, by assumption⟩
 · split at h
   · exact .inr (.inl ⟨h, by assumption⟩)
   · exact .inr (.inr ⟨h, by omega⟩)
def con89 : Con := { ps := [.d true yLY, .d false yI], rs := [.d false yI], pre := fun (x : Ly × Int × Unit) => GoodL x.1 ∧ 0 ≤ x.2.1 ∧ x.2.1 < x.1.1.length, out := fun _ => (0, ()), nw := id }
theorem c89 : CtrOk Tryz.prog 89 con89.ctr :=
 aA0 eA0 (eC c97 has97 (eC c23 has23 (eC c41 has41 (eC c92 has92 eN)))) rfl Tryz.func89 rfl con89 1267689285854475646979063153655 (by kernel_rfl) (by decide) (by decide) rfl (by decide) rfl (by
  rintro ⟨⟨(ns : List Nd), (ds : List Dv)⟩, (i0 : Int), _⟩ hpre hwf X hT hG hk hK; obtain ⟨hg, h1, h2⟩ : GoodL (ns, ds) ∧ 0 ≤ i0 ∧ i0 < ns.length := hpre; obtain ⟨i, rfl⟩ : ∃ i : Nat, i0 = i := ⟨i0.toNat, by omega⟩; have hi : i < ns.length := by omega
  (simp -implicitDefEqProofs (maxSteps := 4000000) only [go_sem, bP, con89, con97, con23, con41, con92, hT, hG, hk, hK, Tryz.results89] at hwf ⊢); (try simp (disch := decide +kernel) only [drawn, true_and, and_true])
  clear hwf; have ek : ∀ z, ns.getD (i : Int).toNat z = ns[i] := fun z => by simp [hi]
  have ha : NdAt ns i ns[i] := hg.at hi; have hn24 := hg.n24; simp only [ek]; generalize ns[i] = x at *; obtain ⟨x1, (x2 : Int), (x3 : Int), (x4 : Int), (x5 : List Int)⟩ := x; obtain ⟨g1, g2, g3, g4, g5, g6, g7, g8, g9, g10, g11, g12⟩ := ha; dsimp only at g1 g2 g3 g4 g5 g6 g7 g8 g9 g10 g12; simp only [yC7, fD2] at *; have hex : (x5.length = 2 ∧ (x2 = 4 ∨ x2 = 5 ∨ x2 = 6)) ∨ (x5.length = 0 ∧ (x2 = 8 ∨ x2 = 9)) ∨ (x5.length = 1 ∧ x2 ≠ 4 ∧ x2 ≠ 5 ∧ x2 ≠ 6 ∧ x2 ≠ 8 ∧ x2 ≠ 9) := nD1 g6; have hexn : x5.length = exN x2 := g6; clear g6
  (repeat' with_reducible first | refine And.intro ?_ ?_ | intro _) <;> try first | with_reducible (first | assumption | omega | contradiction) | decide
  all_goals first
   | (exfalso; omega)
   | skip
  all_goals refine cA0 ⟨{ k : Nat // k ≤ x5.length }, 1000, fun k => [(1, .one (.int .i64 i)), (2, .one (.loc 64 0)), (5, .one (.loc 65 0)), (8, .one (.int .i64 k.1))], fun k => [(64, .cells 30 [.sl yNO ns false, .sl yPL ds false]), (65, .cells 56 [.str x1, .int .i64 x2, .int .i64 x3, .int .i64 x4, .sl yI x5 false])], fun k => x5.length - k.1⟩ ⟨0, Nat.zero_le _⟩ ?_ ?_
  all_goals first
   | (simp only [go_sem]
      try first | rfl | (and_intros <;> first | trivial | rfl | omega)
      done)
   | skip
  all_goals
   rintro ⟨k, (hkl : k ≤ x5.length)⟩
   (simp -implicitDefEqProofs (maxSteps := 4000000) only [go_sem, bP, con89, con97, con23, con41, con92, hT, hG, hk, hK, Tryz.results89]); (try simp (disch := decide +kernel) only [drawn, true_and, and_true])
   refine fun _ => ⟨fun hlt => ?_, fun hge => ?_⟩
   · have hk' : k < x5.length := by omega
     have e5 : ∀ z, x5.getD (k : Int).toNat z = x5[k] := fun z => by simp [hk']
     simp only [e5]; have h7 := g7 k hk'; generalize x5[k] = e at *; have hq : decide (e = (i : Int)) = (decide (x2 = 5) && decide ((k : Int) = 0)) := by
      rw [Bool.eq_iff_iff, Bool.and_eq_true, decide_eq_true_eq, decide_eq_true_eq, decide_eq_true_eq]; omega
     (repeat' with_reducible first | refine And.intro ?_ ?_ | intro _) <;> try first | with_reducible (first | assumption | omega | contradiction) | decide
     all_goals first
      | omega
      | (have h : (¬0 ≤ e ∨ ¬e ≤ (ns.length : Int) - 1) ∨ ¬decide (e = (i : Int)) = (decide (x2 = 5) && decide ((k : Int) = 0)) := by assumption
         rcases h with h | h
         · omega
         · exact absurd hq h)
      | (refine dA0 ⟨k + 1, by omega⟩ ?_ (by dsimp only; omega)
         simp only [go_sem]
         try rfl
         done)
   · refine fun _ => ⟨fun _ => by omega, fun _ _ => ⟨fun _ => by omega, fun _ _ h => absurd h.2 (g8 (by omega))⟩⟩)
def con90 : Con := { ps := [.d true yLY], rs := [.d false .bool], pre := fun (x : Ly × Unit) => GoodL x.1, out := fun _ => (true, ()), nw := id }
theorem c90 : CtrOk Tryz.prog 90 con90.ctr :=
 aA0 eA0 eN rfl Tryz.func90 rfl con90 1240357893302510136500175871 (by kernel_rfl) (by decide) (by decide) rfl (by decide) rfl (by
  rintro ⟨⟨(ns : List Nd), (ds : List Dv)⟩, _⟩ hpre hwf X hT hG hk hK; have hg : GoodL (ns, ds) := hpre
  (simp -implicitDefEqProofs (maxSteps := 4000000) only [go_sem, bP, con90, hT, hG, hk, hK, Tryz.results90] at hwf ⊢); (try simp (disch := decide +kernel) only [drawn, true_and, and_true])
  clear hwf; refine cA0 ⟨{ i : Nat // i ≤ ns.length }, 1000, fun i => [(1, .one (.loc 64 0)), (3, .one (.int .i64 i.1))], fun i => [(64, .cells 30 [.sl yNO ns false, .sl yPL ds false])], fun i => ns.length - i.1⟩ ⟨0, Nat.zero_le _⟩ ?_ ?_
  · simp only [go_sem]; rfl
  · rintro ⟨i, (hi : i ≤ ns.length)⟩
    (simp -implicitDefEqProofs (maxSteps := 4000000) only [go_sem, bP, con90, hT, hG, hk, hK, Tryz.results90]); (try simp (disch := decide +kernel) only [drawn, true_and, and_true])
    · intro _ hlt; have hi' : i < ns.length := by omega
      have ek : ∀ z, ns.getD (i : Int).toNat z = ns[i] := fun z => by simp [hi']
      have ha : NdAt ns i ns[i] := hg.at hi'; simp only [ek]; generalize ns[i] = x at *; obtain ⟨x1, (x2 : Int), (x3 : Int), (x4 : Int), (x5 : List Int)⟩ := x; obtain ⟨g1, g2, g3, g4, g5, g6, g7, g8, g9, g10, g11, g12⟩ := ha; dsimp only at g1 g2 g3 g4 g5 g6 g7 g8 g9 g10 g11 g12; dsimp only; have gx : ∀ (k : Nat) (h : k < x5.length), 0 ≤ x5[k] ∧ x5[k] < ns.length := fun k h => by have := g7 k h; omega
      (repeat' with_reducible first | refine And.intro ?_ ?_ | intro _) <;> try first | with_reducible (first | assumption | omega | contradiction) | decide
      all_goals first
       | (exfalso; omega)
       | skip
      all_goals refine cA0 ⟨{ k : Nat // k ≤ x5.length }, 2000, fun k => [(1, .one (.loc 64 0)), (3, .one (.int .i64 i)), (4, .one (.loc 65 0)), (7, .one (.int .i64 k.1))], fun k => [(64, .cells 30 [.sl yNO ns false, .sl yPL ds false]), (65, .cells 56 [.str x1, .int .i64 x2, .int .i64 x3, .int .i64 x4, .sl yI x5 false])], fun k => x5.length - k.1⟩ ⟨0, Nat.zero_le _⟩ ?_ ?_
      all_goals first
       | (simp only [go_sem]
          try first | rfl | (and_intros <;> first | trivial | rfl | omega)
          done)
       | skip
      all_goals
       rintro ⟨k, (hkl : k ≤ x5.length)⟩
       (simp -implicitDefEqProofs (maxSteps := 4000000) only [go_sem, bP, con90, hT, hG, hk, hK, Tryz.results90]); (try simp (disch := decide +kernel) only [drawn, true_and, and_true])
       refine fun _ => ⟨fun hlt => ?_, fun hge => ?_⟩
       · have hk' : k < x5.length := by omega
         have e5 : ∀ z, x5.getD (k : Int).toNat z = x5[k] := fun z => by simp [hk']
         simp only [e5]; have h7 := gx k hk'; have h11 := g11 k hk'; obtain ⟨y, ey⟩ : ∃ y, ns.getD (x5[k]).toNat nd0 = y := ⟨_, rfl⟩; have ey' : ns.getD (x5[k]).toNat (ByteArray.empty, 0, 0, 0, []) = y := ey; rw [ey] at h11; simp only [ey']; generalize x5[k] = e at *; have h11a : ¬ y.2.1 = 1 := h11.1; have h11b : (x2 = 6 ∧ k = 1 ∧ y.2.2.2.1 = 1) ∨ (¬ (x2 = 6 ∧ k = 1) ∧ y.2.2.2.1 = x4) := by
          have := h11.2; split at this
          · exact .inl ⟨by omega, by omega, this⟩
          · exact .inr ⟨by assumption, this⟩
         clear g7 gx g11 h11
         (repeat' with_reducible first | refine And.intro ?_ ?_ | intro _) <;> try first | with_reducible (first | assumption | omega | contradiction) | decide
         all_goals first
          | (exfalso; omega)
          | (refine dA0 ⟨k + 1, by omega⟩ ?_ (by dsimp only; omega)
             simp only [go_sem]
             try rfl
             done)
       · refine ⟨by omega, ?_⟩; refine dA0 ⟨i + 1, by omega⟩ ?_ (by dsimp only; omega); simp only [go_sem]; rfl)
end Go.Proofs.YtabadacjbkhmkaaGreatDoor
