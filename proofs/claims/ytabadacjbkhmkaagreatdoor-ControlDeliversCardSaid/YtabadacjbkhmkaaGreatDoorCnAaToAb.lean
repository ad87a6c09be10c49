/- Part. -/
import Derived.Test.YtabadacjbkhmkaaGreatDoorEvNst2ToRa
import Derived.Test.YtabadacjbkhmkaaGreatDoorEvTab
import Derived.OpenShut
import Derived.JoinedCond
import Derived.Below
import Derived.ChangeSame
import Derived.ChangeArms
import Derived.WideKeyArgs
import Derived.Test.YtabadacjbkhmkaaGreatDoorEvFun4ToBox
import Derived.Test.YtabadacjbkhmkaaGreatDoorEvSimp
import Derived.Lib.LaidTab
set_option linter.all false
set_option maxRecDepth 100000
set_option maxHeartbeats 8000000
namespace Go.Proofs.YtabadacjbkhmkaaGreatDoor
open Go.Ev
def Dg1 (s : ByteArray) : Prop := s.size = 1 ∧ 48 ≤ byteAt s 0 ∧ byteAt s 0 ≤ 57
def dgV (s : ByteArray) : Int := byteAt s 0 - 48
def con115 : Con := { ps := [.d false .str], rs := [.d false .bool], pre := fun (x : ByteArray × Unit) => Dg1 x.1, out := fun _ => (true, ()), nw := id }
theorem c115 : CtrOk Tryz.prog 115 con115.ctr :=
 aA0 eA0 eN rfl Tryz.func115 rfl con115 524429 (by kernel_rfl) (by decide) (by decide) rfl (by decide) rfl (by
  rintro ⟨s, _⟩ hpre hwf X hT hG hk hK; obtain ⟨h1, h2, h3⟩ : Dg1 s := hpre
  (simp -implicitDefEqProofs (maxSteps := 4000000) only [go_sem, bP, con115, hT, hG, hk, hK, Tryz.results115] at hwf ⊢)
  clear hwf; refine cA0 ⟨{ i : Nat // i ≤ 1 }, 1000, fun i => [(0, .one (.str s)), (3, .one (.int .i64 (i.1 : Int)))], fun _ => [], fun i => 1 - i.1⟩ ⟨0, Nat.zero_le _⟩ ?_ ?_
  · simp only [go_sem]; rfl
  · rintro ⟨i, (hi : i ≤ 1)⟩
    (simp -implicitDefEqProofs (maxSteps := 4000000) only [go_sem, bP, con115, hT, hG, hk, hK, Tryz.results115])
    refine fun _ hlt => ?_; obtain rfl : i = 0 := by omega
    have e0 : byteAt s ((0 : Nat) : Int) = byteAt s 0 := rfl; simp only [e0, h1]; generalize byteAt s 0 = c at *
    (repeat' with_reducible first | refine And.intro ?_ ?_ | intro _) <;> try first | with_reducible (first | assumption | omega | contradiction) | decide
    all_goals first
     | omega
     | (refine dA0 ⟨1, Nat.le_refl _⟩ ?_ (by dsimp only; omega)
        simp only [go_sem]
        try rfl
        done))
def con116 : Con := { ps := [.d false .str], rs := [.d false yI], pre := fun (x : ByteArray × Unit) => Dg1 x.1, out := fun (x : ByteArray × Unit) => (dgV x.1, ()), nw := id }
theorem c116 : CtrOk Tryz.prog 116 con116.ctr :=
 aA0 eA0 eN rfl Tryz.func116 rfl con116 285 (by kernel_rfl) (by decide) (by decide) rfl (by decide) rfl (by
  rintro ⟨s, _⟩ hpre hwf X hT hG hk hK; obtain ⟨h1, h2, h3⟩ : Dg1 s := hpre
  (simp -implicitDefEqProofs (maxSteps := 4000000) only [go_sem, bP, con116, hT, hG, hk, hK, Tryz.results116] at hwf ⊢)
  clear hwf; refine cA0 ⟨{ i : Nat // i ≤ 1 }, 1000, fun i => [(0, .one (.str s)), (3, .one (.int .i64 (if i.1 = 0 then 0 else dgV s))), (4, .one (.int .i64 (i.1 : Int)))], fun _ => [], fun i => 1 - i.1⟩ ⟨0, Nat.zero_le _⟩ ?_ ?_
  · simp only [go_sem]
    try simp only [if_true]
    rfl
  · rintro ⟨i, (hi : i ≤ 1)⟩; have hdv : dgV s = byteAt s 0 - 48 := rfl
    (simp -implicitDefEqProofs (maxSteps := 4000000) only [go_sem, bP, con116, hT, hG, hk, hK, Tryz.results116])
    refine fun _ => ⟨fun hlt => ?_, fun hge => ?_⟩
    · obtain rfl : i = 0 := by omega
      have e0 : byteAt s ((0 : Nat) : Int) = byteAt s 0 := rfl; simp only [e0, h1, if_true]; generalize byteAt s 0 = c at *
      (repeat' with_reducible first | refine And.intro ?_ ?_ | intro _) <;> try first | with_reducible (first | assumption | omega | contradiction) | decide
      all_goals first
       | omega
       | (refine dA0 ⟨1, Nat.le_refl _⟩ ?_ (by dsimp only; omega)
          simp only [go_sem]; simp only [hdv, Nat.one_ne_zero, if_false]
          try first | rfl | (and_intros <;> first | trivial | rfl | omega)
          done)
    · rw [if_neg (by omega)])
def con96 : Con := { ps := [.d false .str], rs := [.d false yI, .d false .bool], pre := fun (x : ByteArray × Unit) => Dg1 x.1, out := fun (x : ByteArray × Unit) => (dgV x.1, true, ()), nw := id }
theorem c96 : CtrOk Tryz.prog 96 con96.ctr :=
 aA0 eA0 (eC c115 has115 (eC c116 has116 eN)) rfl Tryz.func96 rfl con96 67108877 (by kernel_rfl) (by decide) (by decide) rfl (by decide) rfl (by
  rintro ⟨s, _⟩ hpre hwf X hT hG hk hK; have hd : Dg1 s := hpre; have h1 := hd.1
  (simp -implicitDefEqProofs (maxSteps := 4000000) only [go_sem, bP, con96, con115, con116, hT, hG, hk, hK, Tryz.results96] at hwf ⊢)
  clear hwf; simp only [h1]
  (repeat' with_reducible first | refine And.intro ?_ ?_ | intro _) <;> try first | with_reducible (first | assumption | omega | contradiction) | decide
  all_goals first
   | omega
   | exact hd)
def spS (s : ByteArray) (b : Int) : Nat → List ByteArray × ByteArray
 | 0 => ([], ByteArray.mk #[])
 | i + 1 => if byteAt s i = b then ((spS s b i).1 ++ [(spS s b i).2], ByteArray.mk #[]) else ((spS s b i).1, (spS s b i).2 ++ s.extract i (i + 1))
def spV (s : ByteArray) (b : Int) : List ByteArray := (spS s b s.size).1 ++ [(spS s b s.size).2]
theorem lC2 (s : ByteArray) (b : Int) : ∀ i, (spS s b i).1.length ≤ i ∧ (spS s b i).2.size ≤ i
 | 0 => ⟨Nat.le_refl _, Nat.le_refl _⟩
 | i + 1 => by
   have ih := lC2 s b i; unfold spS; split
   · refine ⟨by rw [List.length_append, List.length_singleton]; omega, Nat.zero_le _⟩
   · refine ⟨by dsimp only; omega, ?_⟩; dsimp only; rw [ByteArray.size_append, ByteArray.size_extract]; omega
def con57 : Con := { ps := [.d false .str, .d false (.int .u8)], rs := [.d false (.sl .str)], pre := fun (x : ByteArray × Int × Unit) => x.1.size ≤ 5000, out := fun (x : ByteArray × Int × Unit) => (spV x.1 x.2.1, ()), nw := id }
theorem c57 : CtrOk Tryz.prog 57 con57.ctr :=
 aA0 eA0 eN rfl Tryz.func57 rfl con57 264435 (by kernel_rfl) (by decide) (by decide) rfl (by decide) rfl (by
  rintro ⟨s, (b : Int), _⟩ hpre hwf X hT hG hk hK; have hl : s.size ≤ 5000 := hpre
  (simp -implicitDefEqProofs (maxSteps := 4000000) only [go_sem, bP, con57, hT, hG, hk, hK, Tryz.results57] at hwf ⊢)
  clear hwf; refine cA0 ⟨{ i : Nat // i ≤ s.size }, 1000, fun i => [(0, .one (.str s)), (1, .one (.int .u8 b)), (5, .one (.row 64)), (6, .one (.str (spS s b i.1).2)), (7, .one (.int .i64 (i.1 : Int)))], fun i => [(64, .row 9 .str (spS s b i.1).1)], fun i => s.size - i.1⟩ ⟨0, Nat.zero_le _⟩ ?_ ?_
  · simp only [go_sem]; simp only [spS]
    try first | rfl | (and_intros <;> first | trivial | rfl | omega)
  · rintro ⟨i, (hi : i ≤ s.size)⟩; obtain ⟨q1, q2⟩ := lC2 s b i; have hst : spS s b (i + 1) = if byteAt s i = b then ((spS s b i).1 ++ [(spS s b i).2], ByteArray.mk #[]) else ((spS s b i).1, (spS s b i).2 ++ s.extract i (i + 1)) := rfl
    (simp -implicitDefEqProofs (maxSteps := 4000000) only [go_sem, bP, con57, hT, hG, hk, hK, Tryz.results57])
    refine fun _ => ⟨fun hlt => ?_, fun hge => ?_⟩
    · have eii : (i : Int).toNat = i := Int.toNat_natCast i; have eii1 : ((i : Int) + 1).toNat = i + 1 := by omega
      have hsz : (s.extract i (i + 1)).size ≤ 1 := by rw [ByteArray.size_extract]; omega
      generalize spS s b i = T at *; simp only [eii, eii1]
      (repeat' with_reducible first | refine And.intro ?_ ?_ | intro _) <;> try first | with_reducible (first | assumption | omega | contradiction) | decide
      all_goals first
       | omega
       | (rw [if_pos (by assumption)] at hst
          refine dA0 ⟨i + 1, by omega⟩ ?_ (by dsimp only; omega); simp only [go_sem]; rw [hst]
          try first | rfl | (and_intros <;> first | trivial | rfl | omega)
          done)
       | (rw [if_neg (by assumption)] at hst
          refine dA0 ⟨i + 1, by omega⟩ ?_ (by dsimp only; omega); simp only [go_sem]; rw [hst]
          try first | rfl | (and_intros <;> first | trivial | rfl | omega)
          done)
    · have : i = s.size := by omega
      subst this
      (repeat' with_reducible first | refine And.intro ?_ ?_ | intro _) <;> try first | with_reducible (first | assumption | omega | contradiction) | decide
      all_goals first
       | omega
       | rfl)
end Go.Proofs.YtabadacjbkhmkaaGreatDoor

namespace Go.Ev
open Go.RowKit Go.WideShapes Go.ChangeShapes
def tyB (P : Program) : Nat → TypeId → Ty → Bool
 | 0, _, _ => false
 | d + 1, t, u => decide (P.cellsOf t = u.n) && decide (0 < u.n) && (match P.underlying t with
   | some (.struct fs) => tyFs (tyB P d) fs.toList 0 u
   | some (.int k) => (match u with | .int k' => decide (k = k') | _ => false)
   | some .bool => (match u with | .bool => true | _ => false)
   | some .string => (match u with | .str => true | _ => false)
   | some (.slice e) => (match u with | .sl v => tyB P d e v | _ => false)
   | _ => false)
where tyFs (f : TypeId → Ty → Bool) : List Field → Nat → Ty → Bool
 | [], _, _ => false
 | [x], off, u => decide (x.offset = off) && f x.type u
 | x :: y :: xs, off, .pair a b => decide (x.offset = off) && f x.type a && tyFs f (y :: xs) (off + a.n) b
 | _, _, _ => false
def sz : (t : Ty) → t.den → Nat
 | .int _, _ => 1
 | .bool, _ => 1
 | .str, s => s.size + 1
 | .unit, _ => 0
 | .sl t, xs => (xs.map (sz t)).sum + 1
 | .pair a b, p => sz a p.1 + sz b p.2
structure Bulk {H : Type} (B : DataW H → Nat) (BA : List (DataW H) → Nat) : Prop where
 lit : ∀ l, 1 ≤ B (.lit l)
 str : ∀ b, b.length + 1 ≤ B (.lit (.string b))
 nil : 1 ≤ B .nil
 sl : ∀ a b, BA a + 1 ≤ B (.slice a b)
 agg : ∀ a, BA a ≤ B (.agg a)
 cons : ∀ d r, BA (d :: r) = B d + BA r
section
variable {H : Type} {enc : TypeId × Value → H} {P : Program} {w : World} {B : DataW H → Nat} {BA : List (DataW H) → Nat}
theorem cC4 {α β : Type} {f : α → Option β} : ∀ {l : List α} {r : List β}, l.mapM f = some r → r.length = l.length ∧ ∀ (i : Nat) (x : α) (y : β), l[i]? = some x → r[i]? = some y → f x = some y
 | [], r, h => by simp at h; subst h; exact ⟨rfl, fun i x y h => by simp at h⟩
 | a :: l, r, h => by
   rw [List.mapM_cons] at h
   cases hf : f a with
   | none => rw [hf] at h; cases h
   | some b =>
     rw [hf] at h
     cases hl : l.mapM f with
     | none => simp only [hl] at h; cases h
     | some bs =>
       simp only [hl] at h; cases h; obtain ⟨h1, h2⟩ := cC4 hl; refine ⟨by simp [h1], fun i x y hx hy => ?_⟩
       cases i with
       | zero => simp at hx hy; subst hx; subst hy; exact hf
       | succ i => simp at hx hy; exact h2 i x y hx hy
theorem yA3 {a : Addr} {n : Nat} {cs : List Value} (h : w.cells? 0 a n = some cs) : cs.length = n ∧ ∀ j u, cs[j]? = some u → w.cell? (a.add j) = some u := by
 unfold World.cells? at h; rw [if_pos (Nat.zero_le _)] at h; obtain ⟨h1, h2⟩ := cC4 h; refine ⟨by simpa using h1, fun j u hu => ?_⟩; have hj : j < cs.length := (List.getElem?_eq_some_iff.1 hu).1; have hjn : j < n := by simp at h1; omega
 exact h2 j j u (by simp [hjn]) hu
theorem sum_le {B : DataW H → Nat} {BA : List (DataW H) → Nat} (hB : Bulk B BA) {t : Ty} : ∀ (ys : List t.den) (ds : List (DataW H)), ys.length = ds.length → (∀ (i : Nat) (y : t.den) (d : DataW H), ys[i]? = some y → ds[i]? = some d → sz t y ≤ B d) → (ys.map (sz t)).sum ≤ BA ds
 | [], ds, _, _ => by simp
 | y :: ys, [], h, _ => by simp at h
 | y :: ys, d :: ds, h, hs => by
   have h0 := hs 0 y d rfl rfl; have := sum_le hB ys ds (by simpa using h) (fun i y d hy hd => hs (i + 1) y d (by simpa using hy) (by simpa using hd)); simp only [List.map_cons, List.sum_cons, hB.cons]; omega
theorem mB8 {α : Type} {r : α → List Value → Prop} : ∀ (ys : List α) (cs : List (List Value)), ys.length = cs.length → (∀ (i : Nat) (y : α) (c : List Value), ys[i]? = some y → cs[i]? = some c → r y c) → roAll r ys cs.flatten
 | [], [], _, _ => rfl
 | [], _ :: _, h, _ => by simp at h
 | _ :: _, [], h, _ => by simp at h
 | y :: ys, c :: cs, h, hr => ⟨c, cs.flatten, by simp, hr 0 y c rfl rfl, mB8 ys cs (by simpa using h) (fun i z d hz hd => hr (i + 1) z d (by simpa using hz) (by simpa using hd))⟩
theorem pickQ {α : Type} {Q : Nat → α → Prop} : ∀ (n : Nat), (∀ i, i < n → ∃ y, Q i y) → ∃ ys : List α, ys.length = n ∧ ∀ (i : Nat) (y : α), ys[i]? = some y → Q i y
 | 0, _ => ⟨[], rfl, fun i y h => by simp at h⟩
 | n + 1, h => by
   obtain ⟨ys, h1, h2⟩ := pickQ n (fun i hi => h i (by omega)); obtain ⟨y, hy⟩ := h n (by omega); refine ⟨ys ++ [y], by simp [h1], fun i z hz => ?_⟩; by_cases e : i < n
   · rw [List.getElem?_append_left (by omega)] at hz; exact h2 i z hz
   · have hlt := (List.getElem?_eq_some_iff.1 hz).1; have : i = n := by simp at hlt; omega
     subst this; rw [List.getElem?_append_right (by omega), h1] at hz; simp at hz; subst hz; exact hy
theorem aB3 {α : Type} (f : Nat → Option α) : ∀ (n : Nat), (∀ i, i < n → ∃ y, f i = some y) → ∃ ys : List α, ys.length = n ∧ ∀ i, i < n → f i = ys[i]?
 | 0, _ => ⟨[], rfl, fun i hi => by omega⟩
 | n + 1, h => by
   obtain ⟨ys, h1, h2⟩ := aB3 f n (fun i hi => h i (by omega)); obtain ⟨y, hy⟩ := h n (by omega); refine ⟨ys ++ [y], by simp [h1], fun i hi => ?_⟩; by_cases e : i = n
   · subst e; rw [hy, List.getElem?_append_right (by omega), h1]; simp
   · rw [h2 i (by omega), List.getElem?_append_left (by omega)]
theorem vA9 {n : Nat} : ∀ (cs : List (List Value)), (∀ c ∈ cs, c.length = n) → ∀ (j : Nat) (u : Value), cs.flatten[j]? = some u → ∃ i q c, cs[i]? = some c ∧ c[q]? = some u ∧ j = i * n + q
 | [], _, j, u, h => by simp at h
 | c :: cs, hl, j, u, h => by
   rw [List.flatten_cons] at h; by_cases hj : j < c.length
   · rw [List.getElem?_append_left hj] at h; exact ⟨0, j, c, rfl, h, by omega⟩
   · rw [List.getElem?_append_right (by omega)] at h; obtain ⟨i, q, d, h1, h2, h3⟩ := vA9 cs (fun d hd => hl d (by simp [hd])) _ u h; have := hl c (by simp); exact ⟨i + 1, q, d, by simpa using h1, h2, by rw [Nat.add_mul]; omega⟩
theorem aD1 (a : Addr) (i j : Nat) (h : a.spot = none) : (a.add i).add j = a.add (i + j) := by
 obtain ⟨b, o, s⟩ := a; simp only at h; subst h; simp [oA0, Nat.add_assoc]
theorem eB6 (hB : Bulk B BA) : ∀ (fuel d : Nat) (t : TypeId) (u : Ty) (cs : List Value) (x : DataW H × List MemPlace), tyB P d t u = true → DataW.trod enc P w 0 (fun _ => true) true fuel t cs = some x → ∃ y : u.den, ro w (fun _ => False) u y cs ∧ sz u y ≤ B x.1
 | 0, d, t, u, cs, x, _, h => by simp [DataW.trod] at h
 | fuel + 1, 0, t, u, cs, x, ht, h => by cases ht
 | fuel + 1, d + 1, t, u, cs, x, ht, h => by
   simp only [tyB, Bool.and_eq_true, decide_eq_true_eq] at ht; obtain ⟨⟨hn, hpos⟩, ht⟩ := ht
   cases hu : P.underlying t with
   | none => rw [hu] at ht; cases ht
   | some de =>
     rw [hu] at ht; cases de <;> simp only at ht <;> try (cases ht; done)
     case bool =>
      cases u <;> simp only at ht <;> try (cases ht; done)
      obtain ⟨b, rfl, rfl⟩ := DataW.trod_bool hu h; exact ⟨b, rfl, hB.lit _⟩
     case string =>
      cases u <;> simp only at ht <;> try (cases ht; done)
      obtain ⟨s, rfl, rfl, hs⟩ := DataW.trod_string hu h; exact ⟨s, ⟨rfl, hs⟩, by have := hB.str s.data.toList; simpa [sz] using this⟩
     case int k =>
      cases u <;> simp only at ht <;> try (cases ht; done)
      simp only [decide_eq_true_eq] at ht; subst ht; obtain ⟨n, rfl, rfl, hs⟩ := DataW.trod_int hu h; refine ⟨n, ⟨rfl, ?_⟩, hB.lit _⟩; simpa [Lit.wf, InR] using hs
     case slice e =>
      cases u <;> simp only at ht <;> try (cases ht; done)
      rename_i v; have hcell : P.cellsOf e = v.n ∧ 0 < v.n := by
       cases d with
       | zero => cases ht
       | succ d => simp only [tyB, Bool.and_eq_true, decide_eq_true_eq] at ht; exact ht.1
      rcases DataW.trod_slice hu h with ⟨rfl, rfl⟩ | ⟨a, len, cap, elems, rest, n, e1, rfl, rfl, _, hlc, hcm, hel, helem, hsp, _⟩
      · exact ⟨[], ⟨none, 0, 0, rfl, rfl, Nat.le_refl _, by simp [maxLen], .inl rfl⟩, by simpa [sz] using hB.nil⟩
      · cases e1; obtain ⟨hrl, hrest⟩ := hsp rfl; have hspot : 0 < cap → a.spot = none := by
         intro hc; have key : ∀ i y, (w.cells? 0 (a.add (i * P.cellsOf e)) (P.cellsOf e)).bind (DataW.trod enc P w 0 (fun _ => true) true fuel e) = some y → i = 0 → a.spot = none := by
          rintro i y hy rfl; rw [Nat.zero_mul] at hy
          cases hcs : w.cells? 0 (a.add 0) (P.cellsOf e) with
          | none => rw [hcs] at hy; cases hy
          | some c0 =>
            obtain ⟨g1, g2⟩ := yA3 hcs; have hp : 0 < c0.length := by omega
            have g3 := g2 0 c0[0] (by simp [hp]); simp only [Addr.add, if_true] at g3; unfold World.cell? at g3; split at g3
            · split at g3
              · cases g3
              · rename_i hs; simpa using hs
            · cases g3
         by_cases hl : 0 < len
         · have := helem 0 hl; rw [List.getElem?_eq_getElem (by omega)] at this; exact key 0 _ this rfl
         · have := hrest 0 (by omega); rw [List.getElem?_eq_getElem (by omega)] at this; exact key _ _ this (by omega)
        have hex : ∀ i, i < len → ∃ c, w.cells? 0 (a.add (i * P.cellsOf e)) (P.cellsOf e) = some c := fun i hi => by
         have := helem i hi; rw [List.getElem?_eq_getElem (by omega)] at this
         cases hc : w.cells? 0 (a.add (i * P.cellsOf e)) (P.cellsOf e) with
         | none => rw [hc] at this; cases this
         | some c => exact ⟨c, rfl⟩
        obtain ⟨css, hcl, hcs⟩ := aB3 _ len hex; have hrow : ∀ (i : Nat) (c : List Value), css[i]? = some c → ∃ y : v.den, ro w (fun _ => False) v y c ∧ ∃ q, elems[i]? = some q ∧ sz v y ≤ B q.1 := by
         intro i c hc; have hi : i < len := by have := (List.getElem?_eq_some_iff.1 hc).1; omega
         have h1 := helem i hi; rw [hcs i hi, hc] at h1; simp only [Option.bind_some] at h1; rw [List.getElem?_eq_getElem (by omega)] at h1; obtain ⟨y, g1, g2⟩ := eB6 hB fuel d e v c _ ht h1; exact ⟨y, g1, _, List.getElem?_eq_getElem (by omega), g2⟩
        obtain ⟨ys, hyl, hyat⟩ := pickQ (Q := fun i (y : v.den) => ∀ c, css[i]? = some c → ro w (fun _ => False) v y c ∧ ∃ q, elems[i]? = some q ∧ sz v y ≤ B q.1) len (fun i hi => by
         obtain ⟨y, g⟩ := hrow i css[i] (List.getElem?_eq_getElem (by omega)); exact ⟨y, fun c hc => by
          have : css[i] = c := by rw [List.getElem?_eq_getElem (by omega)] at hc; exact Option.some.inj hc
          rw [← this]; exact g⟩)
        have hro : roAll (ro w (fun _ => False) v) ys css.flatten := mB8 ys css (by omega) (fun i y c hy hc => (hyat i y hy c hc).1); refine ⟨ys, ⟨some a, len, cap, rfl, hyl.symm, hlc, hcm, ?_⟩, ?_⟩
        · by_cases hc0 : cap = 0
          · exact .inl hc0
          · have hs := hspot (by omega); refine .inr ⟨a.block, a.off, css.flatten, by obtain ⟨b, o, s⟩ := a; simp only at hs; subst hs; rfl, hro, fun j q hq => ⟨fun h => h, ?_⟩⟩; obtain ⟨i, r, c, g1, g2, g3⟩ := vA9 (n := v.n) css (fun c hc => by
             obtain ⟨i, hi, rfl⟩ := List.mem_iff_getElem.1 hc; have := hcs i (by omega); rw [List.getElem?_eq_getElem hi] at this; rw [(yA3 this).1]; exact hcell.1) j q hq
            have hi : i < len := by have := (List.getElem?_eq_some_iff.1 g1).1; omega
            have := hcs i hi; rw [g1] at this; have := (yA3 this).2 r q g2; rw [aD1 _ _ _ hs] at this; obtain ⟨b, o, s⟩ := a; simp only at hs; subst hs; rw [oA0] at this; rw [g3, ← hcell.1]; exact this
        · have := sum_le hB ys (elems.map (·.1)) (by simp; omega) (fun i y q hy hq => by
           have hi : i < len := by have := (List.getElem?_eq_some_iff.1 hy).1; omega
           obtain ⟨_, z, g1, g2⟩ := hyat i y hy css[i] (List.getElem?_eq_getElem (by omega)); rw [List.getElem?_map, g1] at hq; simp at hq; subst hq; exact g2)
          have h2 := hB.sl (elems.map (·.1)) (rest.map (·.1)); simp only [sz]; omega
     case struct fs =>
      obtain ⟨xs, n, e1, rfl, hcl, hxl, hf⟩ := DataW.trod_struct hu h; cases e1; have key : ∀ (fl : List Field) (off : Nat) (u : Ty) (i : Nat), tyB.tyFs (tyB P d) fl off u = true → (∀ (j : Nat) (f : Field), fl[j]? = some f → fs[i + j]? = some f) → i + fl.length = fs.size → off + u.n ≤ cs.length →
       ∃ y : u.den, ro w (fun _ => False) u y ((cs.drop off).take u.n) ∧ sz u y ≤ BA ((xs.drop i).map (·.1)) := by
       intro fl
       induction fl with
       | nil => intro off u i h _ _ _; cases h
       | cons f fl ih =>
         intro off u i hfl hat hlen hoff; have h0 := hat 0 f rfl; have hf0 := hf i f (by simpa using h0); have hi : i < xs.length := by simp at hlen; omega
         have hdrop : xs.drop i = xs[i] :: xs.drop (i + 1) := List.drop_eq_getElem_cons hi; have hlast : ∀ u, f.offset = off → tyB P d f.type u = true → ∃ y : u.den, ro w (fun _ => False) u y ((cs.drop off).take u.n) ∧ sz u y ≤ B xs[i].1 := by
          intro u e1 e2; rw [List.getElem?_eq_getElem hi, e1] at hf0; have hc : P.cellsOf f.type = u.n := by
           cases d with
           | zero => cases e2
           | succ d => simp only [tyB, Bool.and_eq_true, decide_eq_true_eq] at e2; exact e2.1.1
          rw [hc] at hf0; exact eB6 hB fuel d f.type u _ _ e2 hf0
         match fl, hfl with
         | [], hfl =>
           simp only [tyB.tyFs, Bool.and_eq_true, decide_eq_true_eq] at hfl; obtain ⟨y, g1, g2⟩ := hlast u hfl.1 hfl.2; refine ⟨y, g1, ?_⟩
           rw [hdrop, List.map_cons, hB.cons]; omega
         | f2 :: fl, hfl =>
           cases u <;> simp only [tyB.tyFs] at hfl <;> try (cases hfl; done)
           rename_i a b _; simp only [Bool.and_eq_true, decide_eq_true_eq] at hfl; obtain ⟨y, g1, g2⟩ := hlast a hfl.1.1 hfl.1.2; simp only [Ty.n] at hoff; obtain ⟨z, k1, k2⟩ := ih (off + a.n) b (i + 1) hfl.2 (fun j g hg => by have := hat (j + 1) g (by simpa using hg); rwa [show i + (j + 1) = i + 1 + j by omega] at this) (by simp at hlen ⊢; omega) (by omega); refine ⟨(y, z), ⟨_, _, ?_, g1, k1⟩, ?_⟩
           · simp only [Ty.n]; rw [← List.drop_drop, ← List.take_add]
           · rw [hdrop, List.map_cons, hB.cons]; simp only [sz]; omega
      obtain ⟨y, g1, g2⟩ := key fs.toList 0 u 0 ht (fun j f hj => by simpa using hj) (by simp) (by omega); refine ⟨y, ?_, ?_⟩
      · rw [List.drop_zero, List.take_of_length_le (by omega)] at g1; exact g1
      · rw [List.drop_zero] at g2; exact Nat.le_trans g2 (hB.agg _)
end
end Go.Ev

namespace Go.Ev
open Go.RowKit Go.WideShapes Go.ChangeShapes
def lawPs (tys : List (Bool × Ty)) : List PK := tys.map fun p => .d p.1 p.2
def lawCon (tys : List (Bool × Ty)) (pre : dens (lawPs tys) → Prop) : Con := ⟨lawPs tys, [.d false .bool], pre, fun _ => (true, ()), id⟩
def szs : (tys : List (Bool × Ty)) → dens (lawPs tys) → Nat
 | [], _ => 0
 | p :: tys, x => sz p.2 x.1 + szs tys x.2
def tyBs (P : Program) : List TypeId → List (Bool × Ty) → Bool
 | [], [] => true
 | t :: ts, p :: tys => tyB P 20 t p.2 && (isAggB P t == p.1) && tyBs P ts tys
 | _, _ => false
theorem wA5 (m : Mem) : ∀ (t : Ty) (y : t.den), impl m t (expl t y) = some y
 | .int k, n => by simp [impl, expl, implI]
 | .bool, b => rfl
 | .str, s => rfl
 | .unit, _ => rfl
 | .sl t, xs => by simp [impl, expl, implL, view, vA8]
 | .pair a b, p => by
   simp only [impl, expl]; rw [List.take_append_of_le_length (by rw [sA1]; omega), List.take_of_length_le (by rw [sA1]; omega), List.drop_append_of_le_length (by rw [sA1]; omega), List.drop_of_length_le (by rw [sA1]; omega), List.nil_append]; rw [wA5 m a, wA5 m b]; rfl
section
variable {H : Type} {enc : TypeId × Value → H} {P : Program} {W : World} {B : DataW H → Nat} {BA : List (DataW H) → Nat}
theorem aD0 {d : Nat} {t : TypeId} {u : Ty} (h : tyB P d t u = true) : ∃ de, P.underlying t = some de ∧ (match de with | .struct _ | .int _ | .bool | .string | .slice _ => True | _ => False) := by
 cases d with
 | zero => cases h
 | succ d =>
   simp only [tyB, Bool.and_eq_true] at h; have h2 := h.2
   cases hu : P.underlying t with
   | none => rw [hu] at h2; cases h2
   | some de =>
     rw [hu] at h2; refine ⟨de, rfl, ?_⟩; cases de <;> first | trivial | (cases h2; done)
theorem vD2 (hB : Bulk B BA) {t : TypeId} {ag : Bool} {u : Ty} {v : Value} {d : DataW H} {ps : List MemPlace} {base : Nat} (hty : tyB P 20 t u = true) (hag : isAggB P t = ag) (hv : Value.okWide P W .any base t v)
 (h : DataW.Trod enc P W 0 (fun _ => true) true t v d ps) : ∃ y : u.den, repA ⟨W, fun _ => False, fun _ => .int .i64 0, fun _ => True⟩ (avOf ag (expl u y)) v ∧ sz u y ≤ B d ∧ Wf u y ∧ (ag = false → (expl u y).length = 1) := by
 obtain ⟨fuel, h⟩ := h; obtain ⟨y, h1, h2⟩ := eB6 hB fuel 20 t u _ _ hty h; have h3 := vA0 (x := ⟨W, fun _ => False, fun _ => .int .i64 0, fun _ => True⟩) u y _ h1; have hl := jA0 _ _ h3; have hwf := tA5 u y _ h1
 cases ag with
 | true =>
   refine ⟨y, ?_, h2, hwf, fun e => by cases e⟩; have : ∃ cs, v = .agg cs := by
    unfold Value.okWide at hv; unfold isAggB at hag
    cases hu : P.underlying t with
    | none => rw [hu] at hag; cases hag
    | some de =>
      rw [hu] at hv hag; cases de <;> simp [aggB] at hag <;> (obtain ⟨cs, e, _⟩ := hv; exact ⟨cs, e⟩)
   obtain ⟨cs, rfl⟩ := this; unfold avOf repA; simp only [if_true]
   exact ⟨cs.toList, by simp, h3⟩
 | false =>
   have : v.cells.toList = [v] := by
    unfold Value.okWide at hv; unfold isAggB at hag; obtain ⟨de, hu, hde⟩ := aD0 hty
    · rw [hu] at hv hag
      cases de <;> simp [aggB] at hag <;> simp only at hv hde <;> first
       | exact hde.elim
       | (unfold Cell.okWide Cell.ok at hv; rw [hu] at hv; cases v <;> first | rfl | exact False.elim hv)
   rw [this] at h3 hl; refine ⟨y, ?_, h2, hwf, fun _ => by simpa using hl.symm⟩
   match hx : expl u y, hl with
   | [c], _ =>
     rw [hx] at h3; obtain ⟨v', r, e, g1, _⟩ := repCs_cons.1 h3; cases e; unfold avOf repA; simp only [Bool.false_eq_true, if_false]; exact g1
theorem bB9 (hB : Bulk B BA) : ∀ (ts : List TypeId) (tys : List (Bool × Ty)) (vs : List Value) (ds : List (DataW H)) (ps : List MemPlace) (base : Nat), tyBs P ts tys = true → DataW.TrodAll enc P W 0 (fun _ => true) true ts vs ds ps →
 (∀ (j : Nat) (t : TypeId) (v : Value), ts[j]? = some t → vs[j]? = some v → Value.okWide P W .any base t v) → ∃ (x : dens (lawPs tys)) (avs : List AV), repAs ⟨W, fun _ => False, fun _ => .int .i64 0, fun _ => True⟩ avs vs ∧ rds (fun _ => .dead) (lawPs tys) avs = some x ∧ pids (fun _ => Blk.dead) (lawPs tys) avs = [] ∧ szs tys x ≤ BA ds ∧ pwf (lawPs tys) x
 | [], [], vs, ds, ps, base, _, h, _ => by
   obtain ⟨rfl, rfl, rfl⟩ := trodAll_nil h
   exact ⟨(), [], by unfold repAs; rfl, rfl, rfl, Nat.zero_le _, trivial⟩
 | [], _ :: _, _, _, _, _, h, _, _ => by cases h
 | _ :: _, [], _, _, _, _, h, _, _ => by cases h
 | t :: ts, (ag, u) :: tys, vs, ds, ps, base, hty, h, hv => by
   obtain ⟨v, vs, d, ds, p, q, rfl, rfl, rfl, h1, h2⟩ := trodAll_cons h; simp only [tyBs, Bool.and_eq_true, beq_iff_eq] at hty; obtain ⟨y, g1, g2, g3, g4⟩ := vD2 hB hty.1.1 hty.1.2 (hv 0 t v rfl rfl) h1; obtain ⟨x, avs, k1, k2, k3, k4, k5⟩ := bB9 hB ts tys vs ds q base hty.2 h2 (fun j t v ht hj => hv (j + 1) t v (by simpa using ht) (by simpa using hj)); refine ⟨(y, x), avOf ag (expl u y) :: avs, by unfold repAs; exact ⟨v, vs, rfl, g1, k1⟩, ?_, ?_, ?_, ⟨g3, k5⟩⟩
   · have : rd (fun _ => Blk.dead) (.d ag u) (avOf ag (expl u y)) = some y := by
      cases ag with
      | true => simp only [avOf, if_true, rd]; exact wA5 _ u y
      | false =>
        have := g4 rfl
        match hx : expl u y, this with
        | [c], _ =>
          simp only [avOf, Bool.false_eq_true, if_false, rd]; rw [← hx]; exact wA5 _ u y
     show implP (rd _ (.d ag u) _) (rds _ (lawPs tys) avs) = _; rw [this, k2]; rfl
   · show pid (fun _ => Blk.dead) (.d ag u) (avOf ag (expl u y)) ++ pids _ (lawPs tys) avs = []; have : pid (fun _ => Blk.dead) (.d ag u) (avOf ag (expl u y)) = [] := by
      cases avOf ag (expl u y) with
      | one c => cases c <;> rfl
      | _ => rfl
     rw [this]; exact k3
   · rw [hB.cons]; simp only [szs]; omega
theorem mA5 (hl : laidOutB P = true) {W' : World} {sp : Nat → Bool} : ∀ (ts : List TypeId) (vs : List Value) (ds : List (DataW H)) (ps : List MemPlace), (ts.all fun t => P.readableRec t && decide (t < P.types.size)) = true → DataW.TrodAll enc P W 0 (fun _ => true) true ts vs ds ps →
 (∀ p ∈ ps, W.sameAt W' p) → (∀ p ∈ ps, sp p.block = true) → DataW.TrodAll enc P W' 0 sp true ts vs ds ps
 | [], vs, ds, ps, _, h, _, _ => by obtain ⟨rfl, rfl, rfl⟩ := trodAll_nil h; exact trodAll_mk0
 | t :: ts, vs, ds, ps, hr, h, hs, hsp => by
   obtain ⟨v, vs, d, ds, p, q, rfl, rfl, rfl, h1, h2⟩ := trodAll_cons h; simp only [List.all_cons, Bool.and_eq_true, decide_eq_true_eq] at hr; exact ⟨p, q, WideElems.Trod_stays hl hr.1.1 hr.1.2 h1 (fun x hx => hs x (by simp [hx])) (fun x hx => hsp x (by simp [hx])),
    mA5 hl ts vs ds q hr.2 h2 (fun x hx => hs x (by simp [hx])) (fun x hx => hsp x (by simp [hx])), rfl⟩
theorem gC7 {f : Func} {s : ChangeSpec} {apart fresh handsOn again : Bool} {W' : World} {args : Array Value} {ds gs : List (DataW H)} {before : List MemPlace} (hl : laidOutB P = true) (hr : (f.params.toList.all fun t => P.readableRec t && decide (t < P.types.size)) = true)
 {tb : TypeId} (hres : f.resultTypes = #[tb]) (htb : P.underlying tb = some .bool) (hvars : s.vars = []) (hsf : (s.fn H (ds ++ gs)).results = [.lit (.bool true)] ∧ (s.fn H (ds ++ gs)).args = ds ∧ (s.fn H (ds ++ gs)).vars = [])
 (hW : DataW.Whole enc P f.params.toList s.vars apart W args.toList ds gs before) (hb : Below W.heap.size W W') : s.post enc P f apart fresh handsOn again W args (.bool true) W' := by
 have hlt : ∀ p ∈ before, p.block < W.heap.size := fun p hp => hW.lt p hp; obtain ⟨pa, pv, hA, hV, hps, hz, hn⟩ := hW; rw [hvars] at hV; obtain ⟨rfl, rfl⟩ := trodVars_none hV; have hbe : before = pa := by rw [hps, List.append_nil]
 subst hbe; have hargs : ∀ sp : Nat → Bool, (∀ p ∈ before, sp p.block = true) → DataW.TrodAll enc P W' 0 sp true f.params.toList args.toList ds before := fun sp hsp =>
  mA5 hl _ _ _ _ hr hA (fun p hp => hb.same (hlt p hp)) hsp
 have hbool : ∀ (b : Nat) (sp : Nat → Bool) (hd : Bool), DataW.TrodAll enc P W' b sp hd f.resultTypes.toList ((Value.bool true).resultList f.resultTypes.size) (s.fn H (ds ++ [])).results [] := fun b sp hd => by
  rw [hsf.1, hres]; exact trodAll_cons_mk (shut_bool htb true) trodAll_mk0
 refine ⟨ds, [], before, [], before, [], ⟨before, [], hA, by rw [hvars]; rfl, by simp, hz, hn⟩, hbool _ _ _, ?_, ?_, ?_, fun _ => ?_⟩
 · rw [hsf.2.1]; exact hargs _ (fun p hp => by simpa using hlt p hp)
 · rw [hvars, hsf.2.2]; rfl
 · exact World.keptBut_mono (fun p hp => ⟨hp, .inr (by simpa using hp)⟩) (hb.frame (· ∈ before))
 · refine ⟨ok_one hres rfl (okWide_bool_mk htb true), _, [], [] ++ before, ⟨[] ++ before, [], trodAll_append (hargs _ (fun _ _ => rfl)) (hbool _ _ _), by rw [hvars]; rfl, by simp, fun b off hp => ?_, fun ha => by simpa using hn ha⟩, fun p hp _ => by simpa using hp⟩; have hp' : MemPlace.cell b off ∈ before := by simpa using hp
   rw [hb.frozen (hlt _ hp')]; exact hz b off hp'
end
end Go.Ev

namespace Go.Ev
section
variable {P : Program} {T : Tab} {G : Env}
theorem yA4 (ht : TabOK P T) {gl : GVs} (hG : EnvG gl P G) (hm : P.follows .mixedOrders = true) {f : FuncId} {fn : Func} {c : Code} (hf : P.funcs[f]? = some fn) (hb : fn.body = some c) (C : Con) (ks : Nat)
 (hfine : fineC fn.ntmps c = true) (hn : pcOk C.ps = true) (hn2 : C.ps.length ≤ fn.ntmps) (hr : C.rs.length = fn.results.size) (hr4 : fn.results.size ≤ 4) (hv : rvalid C.rs = true)
 (h : ∀ x, C.pre x → pwf C.ps x → ∀ X : Wk, X.T = T → X.G = G → X.ks = ks → X.K = C.post T fn.results.toList x → evk X c (pslots 0 C.ps x) (pheap 0 C.ps x) 32 []) : CtrG gl P f C.ctr := by
 intro D gv hDS hgl cx hcd σ N m w fr avs vs hM hfr hreps hp; unfold Con.ctr Con.effO at hp ⊢
 cases hrd : rds m C.ps avs with
 | none => rw [hrd] at hp; exact hp.elim
 | some x =>
   rw [hrd] at hp; simp only at hp ⊢; split at hp
   case isFalse => exact hp.elim
   rename_i hnd; rw [if_pos hnd]; refine (kB1 ht hm hf hb C.ps C.rs ks hfine hn hn2 hr hr4 hv (hcd.1.symm ▸ hcd.2.symm ▸ hG.at_ hDS hgl) hM hfr hreps hrd hnd (Φ := fun y z => y = C.out x ∧ z = C.nw x) (fun hwf X hT hX hk hK => h x hp hwf X hT hX hk ?_)).mono fun e w' ⟨u, he, y, z, ⟨hy, hz⟩, hres⟩ => ⟨u, he, ?_⟩
   · rw [hK]; funext e st; unfold postR Con.post; have key : (∃ y z, (y = C.out x ∧ z = C.nw x) ∧ entR C.ps C.rs T fn.results.toList st y z) = entR C.ps C.rs T fn.results.toList st (C.out x) (C.nw x) := by
      apply propext; constructor
      · rintro ⟨y, z, ⟨rfl, rfl⟩, he⟩; exact he
      · exact fun he => ⟨_, _, ⟨rfl, rfl⟩, he⟩
     cases e with
     | exit => rfl
     | _ => simp only [key]
   · subst hy; subst hz; exact hres
end
theorem EnvG.nil {gl : GVs} {P : Program} {wf : List (Nat × Nat)} : EnvG gl P ⟨[], [], wf, [], gl⟩ := ⟨fun f C h => (by cases h), fun f C h => (by cases h), fun f C h => (by cases h), rfl⟩
theorem EnvG.cons {gl : GVs} {P : Program} {f : FuncId} {C : Ctr} {d : List (Nat × Ctr)} {r : List (Nat × RCtr)} {wf : List (Nat × Nat)} {it : List (Nat × ItC)} (h : CtrG gl P f C) (k : FnHas P f) (e : EnvG gl P ⟨d, r, wf, it, gl⟩) : EnvG gl P ⟨(f, C) :: d, r, wf, it, gl⟩ :=
 ⟨fun g D hg => (by
   simp only [findL] at hg; split at hg
   · rename_i q; subst q; cases hg; exact ⟨h, k⟩
   · exact e.d g D hg), e.r, e.it, e.gl⟩
theorem EnvG.rcons {gl : GVs} {P : Program} {f : FuncId} {C : RCtr} {d : List (Nat × Ctr)} {r : List (Nat × RCtr)} {wf : List (Nat × Nat)} {it : List (Nat × ItC)} (h : RCtrG gl P f C) (k : FnHas P f) (e : EnvG gl P ⟨d, r, wf, it, gl⟩) : EnvG gl P ⟨d, (f, C) :: r, wf, it, gl⟩ :=
 ⟨e.d, (fun g D hg => by
   simp only [findL] at hg; split at hg
   · rename_i q; subst q; cases hg; exact ⟨h, k⟩
   · exact e.r g D hg), e.it, e.gl⟩
def GlIn (gl : GVs) (W : World) : Prop := ∀ g v, findL gl g = some v → g < W.heap.size ∧
 ∃ (vs : Array Value) (e : TypeId) (hh : Nat × Nat), W.heap[g]? = some (.cells vs e hh) ∧ ∀ (w : World) (O : Nat → Prop), (∀ b, b < W.heap.size → w.heap[b]? = W.heap[b]? ∧ ¬ O b) → roAll (ro w O v.t) v.xs vs.toList
section
open Go.RowKit Go.WideShapes Go.ChangeShapes
variable {H : Type} {enc : TypeId × Value → H} {P : Program} {W : World} {B : DataW H → Nat} {BA : List (DataW H) → Nat}
theorem kC0 (hB : Bulk B BA) {f : FuncId} {tys : List (Bool × Ty)} {pre : dens (lawPs tys) → Prop} {gl : GVs} (hC : CtrG gl P f (lawCon tys pre).ctr) (hgl : GlIn gl W) {ts : List TypeId} (hty : tyBs P ts tys = true) {args : Array Value} {ds : List (DataW H)} {ps : List MemPlace} {base : Nat}
 (hA : DataW.TrodAll enc P W 0 (fun _ => true) true ts args.toList ds ps) (hv : ∀ (j : Nat) (t : TypeId) (v : Value), ts[j]? = some t → args.toList[j]? = some v → Value.okWide P W .any base t v)
 (hpre : ∀ x, szs tys x ≤ BA ds → pwf (lawPs tys) x → pre x) : Calls P f args W fun e W' => e = .returned (.bool true) ∧ Below W.heap.size W W' := by
 obtain ⟨x, avs, h1, h2, h3, h4, h5⟩ := bB9 hB ts tys _ ds ps base hty hA hv
 let cx : Cx := ⟨W, fun _ => False, fun _ => False, 0, fun _ => .int .i64 0, [], fun _ => none, False, gl⟩
 have hM : RepM cx (fun _ => .int .i64 0) (fun _ => True) (fun _ => .dead) W :=
  ⟨fun _ => trivial, fun _ _ => rfl, fun _ _ _ h => (by cases h), fun _ _ h => (by cases h), fun _ _ h => (by cases h), ⟨rfl, rfl, rfl, fun _ => Nat.le_refl _, Nat.le_refl _, fun _ _ _ => rfl⟩, fun _ h => h.elim, fun _ => rfl, fun _ h => absurd h (Nat.not_lt_zero _), (fun _ h => by cases h), fun g v h => by
    obtain ⟨q1, vs, e, hh, q2, q3⟩ := hgl g v h; exact ⟨id, id, q1, vs, e, hh, q2, fun w O hk => q3 w O fun b hb => hk b hb id id⟩⟩
 have hr : repAs (rx cx (fun _ => .int .i64 0) (fun _ => True) (fun _ => .dead) W) avs args.toList := by
  refine mA3 (x := ⟨W, fun _ => False, fun _ => .int .i64 0, fun _ => True⟩) (y := rx cx (fun _ => .int .i64 0) (fun _ => True) (fun _ => .dead) W) ⟨.ex fun b _ _ => ⟨?_, rfl⟩, fun _ _ => rfl, fun _ h => h⟩ avs _ h1; rintro (h | ⟨id, h, _⟩)
  · exact h
  · cases h
 have hp := hpre x h4 h5; have hE : (lawCon tys pre).ctr avs (fun _ => .dead) 0 = (lawCon tys pre).eff avs (fun _ => .dead) 0 x := by
  show (lawCon tys pre).effO avs (fun _ => .dead) 0 (rds (fun _ => .dead) (lawPs tys) avs) = _; rw [h2]; show (if okIds (pids _ (lawPs tys) avs) (rws _ (lawPs tys) avs) then _ else _) = _; rw [h3, if_pos ⟨List.nodup_nil, rfl⟩]
 have := hC False gl False.elim (fun _ _ h => h) cx ⟨rfl, rfl⟩ (fun _ => .int .i64 0) (fun _ => True) (fun _ => .dead) W 0 avs args.toList hM (fun _ _ _ => trivial) hr (by rw [hE]; exact hp); rw [Array.toArray_toList] at this; refine this.mono fun e W' he => ?_; obtain ⟨v, rfl, σ', g1, g2, g3, _⟩ := he; rw [hE] at g3; have hb : v = .bool true := hA4 g3; subst hb; exact ⟨rfl, g1.evo.os, g1.evo.tape, g1.evo.output, g1.evo.size, fun k hk => g1.evo.block k hk (fun h => h)⟩
end
end Go.Ev

set_option maxRecDepth 100000
set_option maxHeartbeats 8000000
namespace Go.Proofs.YtabadacjbkhmkaaGreatDoor
open Go.Ev
attribute [local go_sem] List.set_cons_succ List.set_cons_zero List.getD_cons_succ List.getD_cons_zero List.set_nil
def wordsL : List ByteArray := [ByteArray.mk #[], ByteArray.mk #[101, 110, 116, 114, 121], ByteArray.mk #[98, 101, 108, 116], ByteArray.mk #[115, 99, 114, 101, 101, 110], ByteArray.mk #[100, 105, 118, 101, 114, 116, 101, 114], ByteArray.mk #[108, 111, 111, 112], ByteArray.mk #[103, 97, 116, 101], ByteArray.mk #[115, 116, 111, 114, 101], ByteArray.mk #[99, 104, 117, 116, 101], ByteArray.mk #[109, 97, 110, 117, 97, 108]]
def gvs : GVs := [(0, ⟨.sl .str, [wordsL]⟩)]
abbrev Ln := Nd × Dv × List ByteArray
def bs0 : ByteArray := ByteArray.mk #[]
def atK (kd : Int) : Nat := if strN kd = true then 3 else 2
def wantK (kd : Int) : Nat := (if strN kd = true then 4 else 3) + (if exN kd = 0 then 0 else 1 + exN kd)
structure RdOk (W : List ByteArray) (kd : Int) : Prop where
 kq : kd = 1 ∨ kd = 6 ∨ kd = 8 ∨ kd = 9
 len : W.length = wantK kd
 hk : ∀ k : Nat, 1 ≤ k → k ≤ 9 → (wordsL.getD k bs0 = W.getD 0 bs0 ↔ (k : Int) = kd)
 d1 : ¬ W.getD 0 bs0 = ByteArray.mk #[112, 104, 111, 116, 111, 99, 101, 108, 108]
 d2 : ¬ W.getD 0 bs0 = ByteArray.mk #[115, 99, 97, 110, 110, 101, 114]
 nm : Nm1 (W.getD 1 bs0)
 n2 : Dg1 (W.getD 2 bs0)
 nz : Dg1 (W.getD (atK kd) bs0)
 gt : ¬ exN kd = 0 → W.getD (atK kd + 1) bs0 = ByteArray.mk #[62]
 ex : ∀ k, k < exN kd → Nm1 (W.getD (atK kd + 2 + k) bs0)
def kdW (W : List ByteArray) : Int := (((wordsL.findIdx (fun x => decide (x = W.getD 0 bs0))) : Nat) : Int)
def rdW (W : List ByteArray) : Ln :=
 ((W.getD 1 bs0, kdW W, (if strN (kdW W) = true then dgV (W.getD 2 bs0) else 0), dgV (W.getD (atK (kdW W)) bs0), []), (0, 0, 0), (W.drop (atK (kdW W) + 2)).take (exN (kdW W)))
def con58 : Con := { ps := [.d false .str], rs := [.d true yLN, .d false .bool], pre := fun (x : ByteArray × Unit) => x.1.size ≤ 5000 ∧ RdOk (spV x.1 32) (kdW (spV x.1 32)), out := fun (x : ByteArray × Unit) => (rdW (spV x.1 32), true, ()), nw := id }
theorem c58 : CtrG gvs Tryz.prog 58 con58.ctr :=
 yA4 (G := ⟨[(57, con57.ctr), (96, con96.ctr), (97, con97.ctr), (41, con41.ctr), (23, con23.ctr)], [], [], [], gvs⟩) eA0 (EnvG.cons c57.g has57 (EnvG.cons c96.g has96 (EnvG.cons c97.g has97 (EnvG.cons c41.g has41 (EnvG.cons c23.g has23 EnvG.nil))))) rfl Tryz.func58 rfl con58 374338524842919199182906955734017837091159298670589 (by kernel_rfl) (by decide) (by decide) rfl (by decide) rfl (by
  rintro ⟨s, _⟩ hpre hwf X hT hG hk hK; obtain ⟨hs, hr⟩ : s.size ≤ 5000 ∧ RdOk (spV s 32) (kdW (spV s 32)) := hpre
  (simp -implicitDefEqProofs (maxSteps := 4000000) only [go_sem, bP, con58, con57, con96, con97, con41, con23, hT, hG, hk, hK, Tryz.results58, gvs] at hwf ⊢); (try simp (disch := decide +kernel) only [drawn, true_and, and_true])
  clear hwf; obtain ⟨W, hW⟩ : ∃ W, spV s 32 = W := ⟨_, rfl⟩; rw [hW] at hr; simp only [hW]; obtain ⟨kd, hkd⟩ : ∃ kd, kdW W = kd := ⟨_, rfl⟩; rw [hkd] at hr
  try simp only [hkd]
  have hlen := hr.len; have hkq := hr.kq; have hnz : W.length = 3 ∨ 4 ≤ W.length := by
   rw [hlen]; unfold wantK strN exN
   rcases hkq with rfl | rfl | rfl | rfl <;> decide
  have e0 : ∀ z, W.getD 0 z = W.getD 0 bs0 := fun z => by simp [show 0 < W.length by omega]
  have e1 : ∀ z, W.getD 1 z = W.getD 1 bs0 := fun z => by simp [show 1 < W.length by omega]
  have e2 : ∀ z, W.getD 2 z = W.getD 2 bs0 := fun z => by simp [show 2 < W.length by omega]
  have hd1 := hr.d1; have hd2 := hr.d2; have hnm := hr.nm; have hn2 := hr.n2; refine ⟨hs, fun _ => ?_⟩; refine cA0 ⟨{ k : Nat // 1 ≤ k ∧ k ≤ 3 ∧ (1 < k → W.length = 3) }, 1000, fun k => [(2, .one (.loc 64 0)), (4, .one (.sl .str W false)), (5, .one (.loc 67 0)), (6, .one (.int .i64 (k.1 : Int)))], fun _ => [(64, .cells 113 [.undef, .undef, .undef, .undef, .undef, .undef, .undef, .undef, .undef]), (67, .cells 113 [.str bs0, .int .i64 0, .int .i64 0, .int .i64 0, .row 68, .int .i64 0, .int .i64 0, .int .i64 0, .row 69]), (68, .row 3 yI []), (69, .row 9 .str [])], fun k => 3 - k.1⟩ ⟨1, Nat.le_refl _, (show 1 ≤ 3 by decide), fun h => absurd h (Nat.lt_irrefl _)⟩ ?_ ?_
  · simp only [go_sem]
    try first | rfl | (and_intros <;> first | trivial | rfl | omega)
  · rintro ⟨k, (hk1 : 1 ≤ k), (hk3 : k ≤ 3), (hk4 : 1 < k → W.length = 3)⟩
    (simp -implicitDefEqProofs (maxSteps := 4000000) only [go_sem, bP, con58, con57, con96, con97, con41, con23, hT, hG, hk, hK, Tryz.results58, gvs]); (try simp (disch := decide +kernel) only [drawn, true_and, and_true])
    simp only [Int.toNat_zero, Int.reduceToNat, e0, e1, e2]; refine fun _ => ⟨fun hc => ?_, fun hx => ?_⟩
    · obtain ⟨hc1, hc2⟩ := hc; have hne : ¬ W.getD 0 bs0 = ([ByteArray.mk #[], ByteArray.mk #[112, 104, 111, 116, 111, 99, 101, 108, 108], ByteArray.mk #[115, 99, 97, 110, 110, 101, 114]] : List ByteArray).getD (k : Int).toNat ByteArray.empty := by
       rcases (by omega : k = 1 ∨ k = 2) with rfl | rfl
       · exact hd1
       · exact hd2
      simp only [hne, false_implies, true_and, not_false_eq_true, true_implies, forall_const]; have hl3 : W.length = 3 := by omega
      (repeat' with_reducible first | refine And.intro ?_ ?_ | intro _) <;> try first | with_reducible (first | assumption | omega | contradiction) | decide
      all_goals first
       | omega
       | exact hn2
       | (refine dA0 ⟨k + 1, by omega, by omega, fun _ => hl3⟩ ?_ (by dsimp only; omega)
          simp only [go_sem]
          try rfl
          done)
    · refine cA0 ⟨{ j : Nat // 1 ≤ j ∧ j ≤ 10 }, 2000, fun j => [(2, .one (.loc 64 0)), (4, .one (.sl .str W false)), (5, .one (.loc 67 0)), (9, .one (.int .i64 (j.1 : Int)))], fun j => [(64, .cells 113 [.undef, .undef, .undef, .undef, .undef, .undef, .undef, .undef, .undef]), (67, .cells 113 [.str bs0, .int .i64 (if kd < j.1 then kd else 0), .int .i64 0, .int .i64 0, .row 68, .int .i64 0, .int .i64 0, .int .i64 0, .row 69]), (68, .row 3 yI []), (69, .row 9 .str [])], fun j => 10 - j.1⟩ ⟨1, Nat.le_refl _, (show 1 ≤ 10 by decide)⟩ ?_ ?_
      · simp only [go_sem]; rw [if_neg (by show ¬ kd < ((1 : Nat) : Int); omega)]
        try first | rfl | (and_intros <;> first | trivial | rfl | omega)
      · rintro ⟨j, (hj1 : 1 ≤ j), (hj2 : j ≤ 10)⟩
        (simp -implicitDefEqProofs (maxSteps := 4000000) only [go_sem, bP, con58, con57, con96, con97, con41, con23, hT, hG, hk, hK, Tryz.results58, gvs]); (try simp (disch := decide +kernel) only [drawn, true_and, and_true])
        simp only [Int.toNat_zero, Int.reduceToNat, e0, e1, e2]; refine ⟨fun hj3 => ?_, fun hj3 => ?_⟩
        · have ejj : (j : Int).toNat = j := Int.toNat_natCast j; have ejk : ∀ z, wordsL.getD j z = wordsL.getD j bs0 := fun z => by
           have : wordsL.length = 10 := rfl; simp [show j < wordsL.length by omega]
          have hkj := hr.hk j hj1 (by omega); have ewl : wordsL.length = 10 := rfl; simp only [ejj, ejk, ewl]; refine fun _ => ⟨by omega, fun _ _ => ⟨by omega, fun _ _ => ⟨fun heq => ⟨by omega, ?_⟩, fun hne => ⟨by omega, ?_⟩⟩⟩⟩
          · have hkd' := hkj.1 heq; refine dA0 ⟨j + 1, by omega, by omega⟩ ?_ (by dsimp only; omega); simp only [go_sem]; rw [if_pos (by omega), ← hkd']
            try first | rfl | (and_intros <;> first | trivial | rfl | omega)
          · have hkd' : ¬ (j : Int) = kd := fun h => hne (hkj.2 h); have hif : (if kd < (j : Int) then kd else 0) = (if kd < ((j + 1 : Nat) : Int) then kd else 0) := by
             by_cases h : kd < (j : Int)
             · rw [if_pos h, if_pos (by omega)]
             · rw [if_neg h, if_neg (by omega)]
            refine dA0 ⟨j + 1, by omega, by omega⟩ ?_ (by dsimp only; omega); simp only [go_sem]; rw [← hif]
            try first | rfl | (and_intros <;> first | trivial | rfl | omega)
        · obtain rfl : j = 10 := by omega
          have hif : (if kd < ((10 : Nat) : Int) then kd else 0) = kd := if_pos (by omega); have hk0 : ¬ kd = 0 := by omega
          simp only [hif, hk0, not_false_eq_true, true_implies, true_and, false_or]; have hgt := hr.gt; have hex := hr.ex; have hst : (strN kd = true ∧ W.length = 4 + (1 + exN kd) ∧ 1 ≤ exN kd ∧ exN kd ≤ 2 ∧ atK kd = 3) ∨ (¬ strN kd = true ∧ W.length = 3 ∧ exN kd = 0 ∧ atK kd = 2) := by
           rw [hlen]; unfold wantK atK strN exN
           rcases hkq with rfl | rfl | rfl | rfl <;> decide
          have enz : ∀ z, W.getD 3 z = (W.getD 3 bs0 : ByteArray) ∨ W.length = 3 := fun z => by
           rcases hnz with h | h
           · exact .inr h
           · left; simp [show 3 < W.length by omega]
          refine fun _ => ⟨fun hs => ?_, fun hs => ?_⟩
          · obtain ⟨h1, h2, h3, h4, h5⟩ := hst.resolve_right (fun h => h.1 hs); have e3 := fun z => (enz z).resolve_right (by omega); have e4 : ∀ z, W.getD 4 z = W.getD 4 bs0 := fun z => by simp [show 4 < W.length by omega]
            have hg1 : ((exN kd : Nat) : Int) > 0 := by omega
            have hl1 : (W.length : Int) = 4 + (1 + (exN kd : Int)) := by omega
            have hnz3 : Dg1 (W.getD 3 bs0) := by have := hr.nz; rwa [h5] at this
            simp only [h5] at hgt hex; have hgt4 : W.getD 4 bs0 = ByteArray.mk #[62] := hgt (by omega); have et : ((3 : Int) + 1).toNat = 4 := rfl; simp only [hs, hg1, hl1, not_true, true_implies, false_implies, true_and, and_true, et, e3, e4, hgt4, not_true_eq_false, false_or]; refine ⟨by omega, by omega, fun _ => ⟨by omega, fun _ _ => ⟨hnm, by omega, fun _ _ => ⟨⟨by omega, fun _ _ => ⟨hn2, fun _ => ⟨by omega, fun _ _ => ⟨hnz3, fun _ => ⟨by omega, by omega, fun _ _ => ?_⟩⟩⟩⟩⟩, fun h => absurd h (by decide)⟩⟩⟩⟩; refine cA0 ⟨{ k : Nat // k ≤ exN kd }, 6000, fun k => [(2, .one (.loc 64 0)), (4, .one (.sl .str W false)), (5, .one (.loc 67 0)), (10, .one (.int .i64 ((exN kd : Nat) : Int))), (11, .one (.int .i64 3)), (16, .one (.int .i64 (k.1 : Int)))], fun k => [(64, .cells 113 [.undef, .undef, .undef, .undef, .undef, .undef, .undef, .undef, .undef]), (67, .cells 113 [.str (W.getD 1 bs0), .int .i64 kd, .int .i64 (dgV (W.getD 2 bs0)), .int .i64 (dgV (W.getD 3 bs0)), .row 68, .int .i64 0, .int .i64 0, .int .i64 0, .row 69]), (68, .row 3 yI []), (69, .row 9 .str ((W.drop 5).take k.1))], fun k => exN kd - k.1⟩ ⟨0, Nat.zero_le _⟩ ?_ ?_
            · simp only [go_sem]; rfl
            · rintro ⟨k, (hkk : k ≤ exN kd)⟩
              (simp -implicitDefEqProofs (maxSteps := 4000000) only [go_sem, bP, con58, con57, con96, con97, con41, con23, hT, hG, hk, hK, Tryz.results58, gvs]); (try simp (disch := decide +kernel) only [drawn, true_and, and_true])
              have etk : ((3 : Int) + 2 + (k : Int)).toNat = 5 + k := by omega
              simp only [etk]; refine ⟨fun hlt => ?_, fun hge => ?_⟩
              · have hk5 : 5 + k < W.length := by omega
                have e5 : ∀ z, W.getD (5 + k) z = W.getD (5 + k) bs0 := fun z => by simp [hk5]
                have hnk := hex k (by omega); have htk : (W.drop 5).take (k + 1) = (W.drop 5).take k ++ [W.getD (5 + k) bs0] := by
                 rw [List.take_add_one, List.getElem?_drop, gdE, List.getElem?_eq_getElem hk5]; rfl
                have htl : ((W.drop 5).take k).length ≤ k := List.length_take_le _ _; simp only [e5]; refine ⟨by omega, by omega, by omega, fun _ _ => ⟨hnk, by omega, by omega, by omega, fun _ _ => ⟨by omega, by omega, ?_⟩⟩⟩; refine dA0 ⟨k + 1, by omega⟩ ?_ (by dsimp only; omega); simp only [go_sem]; rw [htk]
                try first | rfl | (and_intros <;> first | trivial | rfl | omega)
              · have : k = exN kd := by omega
                subst this; have hrd : rdW W = ((W.getD 1 bs0, kd, dgV (W.getD 2 bs0), dgV (W.getD 3 bs0), []), (0, 0, 0), (W.drop 5).take (exN kd)) := by
                 unfold rdW; rw [hkd, h5]; simp [hs]
                rw [hW, hrd]; exact ⟨rfl, rfl, rfl, rfl, rfl, rfl, rfl, rfl, rfl⟩
          · obtain ⟨h1, h2, h3, h5⟩ := hst.resolve_left (fun h => by rw [hs] at h; exact absurd h.1 (by decide)); have hnz3 : Dg1 (W.getD 2 bs0) := by have := hr.nz; rwa [h5] at this
            have hl1 : (W.length : Int) = 3 := by omega
            have hgn : ¬ ((exN kd : Nat) : Int) > 0 := by omega
            have hex : ∀ k, k < exN kd → Nm1 (W.getD (4 + k) bs0) := fun k hkx => by omega
            simp only [hgn, hl1, hs, Bool.false_eq_true, not_false_eq_true, not_true_eq_false, false_implies, true_implies, forall_const, implies_true, true_and, and_true, false_and, true_or]; refine fun _ => ⟨by omega, fun _ _ => ⟨hnm, by omega, fun _ _ => ⟨by omega, fun _ _ => ⟨hnz3, fun _ => ?_⟩⟩⟩⟩; refine cA0 ⟨{ k : Nat // k ≤ exN kd }, 6000, fun k => [(2, .one (.loc 64 0)), (4, .one (.sl .str W false)), (5, .one (.loc 67 0)), (10, .one (.int .i64 ((exN kd : Nat) : Int))), (11, .one (.int .i64 2)), (16, .one (.int .i64 (k.1 : Int)))], fun k => [(64, .cells 113 [.undef, .undef, .undef, .undef, .undef, .undef, .undef, .undef, .undef]), (67, .cells 113 [.str (W.getD 1 bs0), .int .i64 kd, .int .i64 (0), .int .i64 (dgV (W.getD 2 bs0)), .row 68, .int .i64 0, .int .i64 0, .int .i64 0, .row 69]), (68, .row 3 yI []), (69, .row 9 .str ((W.drop 4).take k.1))], fun k => exN kd - k.1⟩ ⟨0, Nat.zero_le _⟩ ?_ ?_
            · simp only [go_sem]; rfl
            · rintro ⟨k, (hkk : k ≤ exN kd)⟩
              (simp -implicitDefEqProofs (maxSteps := 4000000) only [go_sem, bP, con58, con57, con96, con97, con41, con23, hT, hG, hk, hK, Tryz.results58, gvs]); (try simp (disch := decide +kernel) only [drawn, true_and, and_true])
              have etk : ((2 : Int) + 2 + (k : Int)).toNat = 4 + k := by omega
              simp only [etk]; refine ⟨fun hlt => ?_, fun hge => ?_⟩
              · have hk5 : 4 + k < W.length := by omega
                have e5 : ∀ z, W.getD (4 + k) z = W.getD (4 + k) bs0 := fun z => by simp [hk5]
                have hnk := hex k (by omega); have htk : (W.drop 4).take (k + 1) = (W.drop 4).take k ++ [W.getD (4 + k) bs0] := by
                 rw [List.take_add_one, List.getElem?_drop, gdE, List.getElem?_eq_getElem hk5]; rfl
                have htl : ((W.drop 4).take k).length ≤ k := List.length_take_le _ _; simp only [e5]; refine ⟨by omega, by omega, by omega, fun _ _ => ⟨hnk, by omega, by omega, by omega, fun _ _ => ⟨by omega, by omega, ?_⟩⟩⟩; refine dA0 ⟨k + 1, by omega⟩ ?_ (by dsimp only; omega); simp only [go_sem]; rw [htk]
                try first | rfl | (and_intros <;> first | trivial | rfl | omega)
              · have : k = exN kd := by omega
                subst this; have hrd : rdW W = ((W.getD 1 bs0, kd, 0, dgV (W.getD 2 bs0), []), (0, 0, 0), (W.drop 4).take (exN kd)) := by
                 unfold rdW; rw [hkd, h5]; simp [hs]
                rw [hW, hrd]; exact ⟨rfl, rfl, rfl, rfl, rfl, rfl, rfl, rfl, rfl⟩)
end Go.Proofs.YtabadacjbkhmkaaGreatDoor
