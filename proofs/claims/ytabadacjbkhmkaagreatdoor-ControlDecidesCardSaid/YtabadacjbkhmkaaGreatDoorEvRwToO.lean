/- Part. -/
import Derived.Test.YtabadacjbkhmkaaGreatDoorEvFun4ToBox
import Derived.Test.YtabadacjbkhmkaaGreatDoorCnLToM
set_option linter.all false
namespace Go.Ev
mutual
def rnC (ρ : Nat → Nat) : C1 → C1
 | .row id => .row (ρ id)
 | .win id a b c => .win (ρ id) a b c
 | .loc id off => .loc (ρ id) off
 | .ep id a b c => .ep (ρ id) a b c
 | .map id => .map (ρ id)
 | .cs id n => .cs (ρ id) n
 | .nst id i => .nst (ρ id) i
 | .nep id i a b c => .nep (ρ id) i a b c
 | .fn f cs => .fn f (rnCs ρ cs)
 | .mv f cs => .mv f (rnCs ρ cs)
 | .pk cs => .pk (rnCs ρ cs)
 | .sp cs off => .sp (rnCs ρ cs) off
 | c => c
def rnCs (ρ : Nat → Nat) : List C1 → List C1
 | [] => []
 | c :: cs => rnC ρ c :: rnCs ρ cs
end
mutual
def rnA (ρ : Nat → Nat) : AV → AV
 | .one c => .one (rnC ρ c)
 | .agg cs => .agg (rnCs ρ cs)
 | .tup vs => .tup (rnAs ρ vs)
 | .ifd c v => .ifd c (rnA ρ v)
def rnAs (ρ : Nat → Nat) : List AV → List AV
 | [] => []
 | v :: vs => rnA ρ v :: rnAs ρ vs
end
def rnB (ρ : Nat → Nat) : Blk → Blk
 | .cells e cs => .cells e (rnCs ρ cs)
 | .scell cs => .scell (rnCs ρ cs)
 | .mapg kt ka fid ks h => .mapg kt ka (ρ fid) ks h
 | .rowg e t p fid xs h => .rowg e t p (ρ fid) xs h
 | b => b
def idsX (b : Blk) : List Nat := idsB b ++ fidB b
theorem jB2 (ρ : Nat → Nat) (b : Blk) : own (rnB ρ b) = own b := by cases b <;> rfl
section
variable {x y : Rx} {ρ : Nat → Nat} {OK : Nat → Prop}
mutual
theorem yC0 (hk : Keep x.w y.w x.O y.O) (hσ : ∀ k, OK k → ¬ y.N (ρ k) ∧ y.σ (ρ k) = x.σ k) : ∀ (c : C1) (v : Value), (∀ k ∈ idsC c, OK k) → repC x c v → repC y (rnC ρ c) v
 | .undef, _, _, _ => by unfold rnC repC; trivial
 | .nilsl, _, _, k => by unfold rnC; unfold repC at *; exact k
 | .nilp, _, _, k => by unfold rnC; unfold repC at *; exact k
 | .nilfn, _, _, k => by unfold rnC; unfold repC at *; exact k
 | .int _ _, _, _, k => by unfold rnC; unfold repC at *; exact k
 | .bool _, _, _, k => by unfold rnC; unfold repC at *; exact k
 | .str _, _, _, k => by unfold rnC; unfold repC at *; exact k
 | .glob _, _, _, k => by unfold rnC; unfold repC at *; exact k
 | .sl t xs cp, v, _, k => by unfold rnC; unfold repC at *; exact ⟨hA0 hk _ _ _ k.1, k.2⟩
 | .rp t z off, v, _, k => by
   unfold rnC; unfold repC at *; obtain ⟨b, o, vs, e, k1, k2⟩ := k
   exact ⟨b, o, vs, e, hA0 hk _ _ _ k1, k2.keep hk⟩
 | .row id, v, ok, k => by
   obtain ⟨h1, h2⟩ := hσ id (ok id (by simp [idsC]))
   unfold rnC; unfold repC at *; exact ⟨h1, by rw [h2]; exact k.2⟩
 | .map id, v, ok, k => by
   obtain ⟨h1, h2⟩ := hσ id (ok id (by simp [idsC]))
   unfold rnC; unfold repC at *; exact ⟨h1, by rw [h2]; exact k.2⟩
 | .win id _ _ _, v, ok, k => by
   obtain ⟨h1, h2⟩ := hσ id (ok id (by simp [idsC]))
   unfold rnC; unfold repC at *; exact ⟨h1, by rw [h2]; exact k.2⟩
 | .loc id _, v, ok, k => by
   obtain ⟨h1, h2⟩ := hσ id (ok id (by simp [idsC]))
   unfold rnC; unfold repC at *; exact ⟨h1, by rw [h2]; exact k.2⟩
 | .ep id _ _ _, v, ok, k => by
   obtain ⟨h1, h2⟩ := hσ id (ok id (by simp [idsC]))
   unfold rnC; unfold repC at *; exact ⟨h1, by rw [h2]; exact k.2⟩
 | .cs id _, v, ok, k => by
   obtain ⟨h1, h2⟩ := hσ id (ok id (by simp [idsC]))
   unfold rnC; unfold repC at *; exact ⟨h1, by rw [h2]; exact k.2⟩
 | .nst id _, v, ok, k => by
   obtain ⟨h1, h2⟩ := hσ id (ok id (by simp [idsC]))
   unfold rnC; unfold repC at *; exact ⟨h1, by rw [h2]; exact k.2⟩
 | .nep id _ _ _ _, v, ok, k => by
   obtain ⟨h1, h2⟩ := hσ id (ok id (by simp [idsC]))
   unfold rnC; unfold repC at *; exact ⟨h1, by rw [h2]; exact k.2⟩
 | .fn f cs, v, ok, k => by
   unfold rnC; unfold repC at *; obtain ⟨vs, e, k1⟩ := k
   exact ⟨vs, e, hA3 hk hσ cs vs (fun q hq => ok q (by simpa [idsC] using hq)) k1⟩
 | .mv f cs, v, ok, k => by
   unfold rnC; unfold repC at *; obtain ⟨vs, e, k1⟩ := k
   exact ⟨vs, e, hA3 hk hσ cs vs (fun q hq => ok q (by simpa [idsC] using hq)) k1⟩
 | .pk cs, v, ok, k => by
   unfold rnC; unfold repC at *; obtain ⟨vs, e, k1⟩ := k
   exact ⟨vs, e, hA3 hk hσ cs vs (fun q hq => ok q (by simpa [idsC] using hq)) k1⟩
 | .sp cs off, v, ok, k => by
   unfold rnC; unfold repC at *; obtain ⟨b, vs, e, k1, k2⟩ := k; exact ⟨b, vs, e, hA3 hk hσ cs vs (fun q hq => ok q (by simpa [idsC] using hq)) k1, k2.keep hk⟩
theorem hA3 (hk : Keep x.w y.w x.O y.O) (hσ : ∀ k, OK k → ¬ y.N (ρ k) ∧ y.σ (ρ k) = x.σ k) : ∀ (cs : List C1) (vs : List Value), (∀ k ∈ idsCs cs, OK k) → repCs x cs vs → repCs y (rnCs ρ cs) vs
 | [], vs, _, k => by unfold rnCs; unfold repCs at *; exact k
 | c :: cs, vs, ok, k => by
   unfold rnCs; unfold repCs at *; obtain ⟨v, r, e, k1, k2⟩ := k; exact ⟨v, r, e, yC0 hk hσ c v (fun q hq => ok q (by simp [idsCs, hq])) k1, hA3 hk hσ cs r (fun q hq => ok q (by simp [idsCs, hq])) k2⟩
end
mutual
theorem jC3 (hk : Keep x.w y.w x.O y.O) (hσ : ∀ k, OK k → ¬ y.N k ∧ y.σ k = x.σ (ρ k)) : ∀ (c : C1) (v : Value), (∀ k ∈ idsC c, OK k) → repC x (rnC ρ c) v → repC y c v
 | .undef, _, _, _ => by unfold repC; trivial
 | .nilsl, _, _, k => by unfold rnC at k; unfold repC at *; exact k
 | .nilp, _, _, k => by unfold rnC at k; unfold repC at *; exact k
 | .nilfn, _, _, k => by unfold rnC at k; unfold repC at *; exact k
 | .int _ _, _, _, k => by unfold rnC at k; unfold repC at *; exact k
 | .bool _, _, _, k => by unfold rnC at k; unfold repC at *; exact k
 | .str _, _, _, k => by unfold rnC at k; unfold repC at *; exact k
 | .glob _, _, _, k => by unfold rnC at k; unfold repC at *; exact k
 | .sl t xs cp, v, _, k => by unfold rnC at k; unfold repC at *; exact ⟨hA0 hk _ _ _ k.1, k.2⟩
 | .rp t z off, v, _, k => by
   unfold rnC at k; unfold repC at *; obtain ⟨b, o, vs, e, k1, k2⟩ := k
   exact ⟨b, o, vs, e, hA0 hk _ _ _ k1, k2.keep hk⟩
 | .row id, v, ok, k => by
   obtain ⟨h1, h2⟩ := hσ id (ok id (by simp [idsC]))
   unfold rnC at k; unfold repC at *; exact ⟨h1, by rw [h2]; exact k.2⟩
 | .map id, v, ok, k => by
   obtain ⟨h1, h2⟩ := hσ id (ok id (by simp [idsC]))
   unfold rnC at k; unfold repC at *; exact ⟨h1, by rw [h2]; exact k.2⟩
 | .win id _ _ _, v, ok, k => by
   obtain ⟨h1, h2⟩ := hσ id (ok id (by simp [idsC]))
   unfold rnC at k; unfold repC at *; exact ⟨h1, by rw [h2]; exact k.2⟩
 | .loc id _, v, ok, k => by
   obtain ⟨h1, h2⟩ := hσ id (ok id (by simp [idsC]))
   unfold rnC at k; unfold repC at *; exact ⟨h1, by rw [h2]; exact k.2⟩
 | .ep id _ _ _, v, ok, k => by
   obtain ⟨h1, h2⟩ := hσ id (ok id (by simp [idsC]))
   unfold rnC at k; unfold repC at *; exact ⟨h1, by rw [h2]; exact k.2⟩
 | .cs id _, v, ok, k => by
   obtain ⟨h1, h2⟩ := hσ id (ok id (by simp [idsC]))
   unfold rnC at k; unfold repC at *; exact ⟨h1, by rw [h2]; exact k.2⟩
 | .nst id _, v, ok, k => by
   obtain ⟨h1, h2⟩ := hσ id (ok id (by simp [idsC]))
   unfold rnC at k; unfold repC at *; exact ⟨h1, by rw [h2]; exact k.2⟩
 | .nep id _ _ _ _, v, ok, k => by
   obtain ⟨h1, h2⟩ := hσ id (ok id (by simp [idsC]))
   unfold rnC at k; unfold repC at *; exact ⟨h1, by rw [h2]; exact k.2⟩
 | .fn f cs, v, ok, k => by
   unfold rnC at k; unfold repC at *; obtain ⟨vs, e, k1⟩ := k
   exact ⟨vs, e, eA4 hk hσ cs vs (fun q hq => ok q (by simpa [idsC] using hq)) k1⟩
 | .mv f cs, v, ok, k => by
   unfold rnC at k; unfold repC at *; obtain ⟨vs, e, k1⟩ := k
   exact ⟨vs, e, eA4 hk hσ cs vs (fun q hq => ok q (by simpa [idsC] using hq)) k1⟩
 | .pk cs, v, ok, k => by
   unfold rnC at k; unfold repC at *; obtain ⟨vs, e, k1⟩ := k
   exact ⟨vs, e, eA4 hk hσ cs vs (fun q hq => ok q (by simpa [idsC] using hq)) k1⟩
 | .sp cs off, v, ok, k => by
   unfold rnC at k; unfold repC at *; obtain ⟨b, vs, e, k1, k2⟩ := k; exact ⟨b, vs, e, eA4 hk hσ cs vs (fun q hq => ok q (by simpa [idsC] using hq)) k1, k2.keep hk⟩
theorem eA4 (hk : Keep x.w y.w x.O y.O) (hσ : ∀ k, OK k → ¬ y.N k ∧ y.σ k = x.σ (ρ k)) : ∀ (cs : List C1) (vs : List Value), (∀ k ∈ idsCs cs, OK k) → repCs x (rnCs ρ cs) vs → repCs y cs vs
 | [], vs, _, k => by unfold rnCs at k; unfold repCs at *; exact k
 | c :: cs, vs, ok, k => by
   unfold rnCs at k; unfold repCs at *; obtain ⟨v, r, e, k1, k2⟩ := k; exact ⟨v, r, e, jC3 hk hσ c v (fun q hq => ok q (by simp [idsCs, hq])) k1, eA4 hk hσ cs r (fun q hq => ok q (by simp [idsCs, hq])) k2⟩
end
mutual
theorem qA7 (hk : Keep x.w y.w x.O y.O) (hσ : ∀ k, OK k → ¬ y.N (ρ k) ∧ y.σ (ρ k) = x.σ k) : ∀ (a : AV) (v : Value), (∀ k ∈ idsA a, OK k) → repA x a v → repA y (rnA ρ a) v
 | .one c, v, ok, k => by unfold rnA; unfold repA at *; exact yC0 hk hσ c v (fun q hq => ok q (by simpa [idsA] using hq)) k
 | .agg cs, v, ok, k => by
   unfold rnA; unfold repA at *; obtain ⟨vs, e, k1⟩ := k
   exact ⟨vs, e, hA3 hk hσ cs _ (fun q hq => ok q (by simpa [idsA] using hq)) k1⟩
 | .tup a9s, v, ok, k => by
   unfold rnA; unfold repA at *; obtain ⟨vs, e, k1⟩ := k
   exact ⟨vs, e, uB1 hk hσ a9s _ (fun q hq => ok q (by simpa [idsA] using hq)) k1⟩
 | .ifd c a, v, ok, k => by
   unfold rnA; unfold repA at *; exact ⟨fun hc => qA7 hk hσ a v (fun q hq => ok q (by simpa [idsA] using hq)) (k.1 hc), k.2⟩
theorem uB1 (hk : Keep x.w y.w x.O y.O) (hσ : ∀ k, OK k → ¬ y.N (ρ k) ∧ y.σ (ρ k) = x.σ k) : ∀ (a9s : List AV) (vs : List Value), (∀ k ∈ idsAs a9s, OK k) → repAs x a9s vs → repAs y (rnAs ρ a9s) vs
 | [], vs, _, k => by unfold rnAs; unfold repAs at *; exact k
 | a :: a9s, vs, ok, k => by
   unfold rnAs; unfold repAs at *; obtain ⟨v, r, e, k1, k2⟩ := k; exact ⟨v, r, e, qA7 hk hσ a v (fun q hq => ok q (by simp [idsAs, hq])) k1, uB1 hk hσ a9s r (fun q hq => ok q (by simp [idsAs, hq])) k2⟩
end
theorem rB2 (hw : y.w = x.w) (hk : Keep x.w y.w x.O y.O) {e : TypeId} {t : Ty} {xss : List (List t.den)} {vs : List Value} (k : famRep x e t xss vs) : famRep y e t xss vs where
 len := k.len
 row := fun i xs v h1 h2 => by
  obtain ⟨k1, flat, k2, k3⟩ := k.row i xs v h1 h2; exact ⟨k1, flat, by rw [hw]; exact k2, fA0 (hA0 hk t) _ _ k3⟩
 inj := k.inj
theorem sA8 (hk : Keep x.w y.w x.O y.O) {kt vt : Ty} {ka va : Bool} : ∀ (l : List (kt.den × vt.den)) (es : List MapEntry), mapRep x kt vt ka va l es → mapRep y kt vt ka va l es
 | [], _, k => k
 | _ :: l, _, ⟨e, r, ks, vs, he, e1, k1, e2, k2, k3⟩ => ⟨e, r, ks, vs, he, e1, hA0 hk _ _ _ k1, e2, hA0 hk _ _ _ k2, sA8 hk l r k3⟩
theorem kD1 (hw : y.w = x.w) (hk : Keep x.w y.w x.O y.O) (hσ : ∀ k, OK k → ¬ y.N (ρ k) ∧ y.σ (ρ k) = x.σ k) {i j : Nat} (hi : y.σ j = x.σ i) : ∀ (B : Blk), (∀ k ∈ idsX B, OK k) → repB x i B → repB y j (rnB ρ B)
 | .dead, _, _ => trivial
 | .cells e cs, ok, ⟨b, vs, e1, e2, k, k1⟩ => ⟨b, vs, by rw [hi]; exact e1, by rw [hw]; exact e2, hA3 hk hσ cs vs (fun q hq => ok q (by simp [idsX, idsB, hq])) k, k1⟩
 | .row e t xs, _, ⟨n, flat, e1, k, k1⟩ => ⟨n, flat, e1, by rw [hi, hw]; exact k, fA0 (hA0 hk t) _ _ k1⟩
 | .settled t xs, _, k => by
   show ro y.w y.O (.sl t) xs [y.σ j]
   rw [hi]; exact hA0 hk _ _ _ k
 | .mapb kt vt ka va l, _, ⟨r, es, cl, e1, e2, k, ks⟩ => ⟨r, es, cl, by rw [hi]; exact e1, by rw [hw]; exact e2, sA8 hk l _ k, ks⟩
 | .fam e t xss, _, ⟨f, vs, e1, k1⟩ => ⟨f, vs, by rw [hi]; exact e1, rB2 hw hk k1⟩
 | .mapg kt ka fid ks hole, ok, ⟨r, es, f, vs, e1, e2, e3, e4, k⟩ => by
   obtain ⟨h1, h2⟩ := hσ fid (ok fid (by simp [idsX, fidB])); exact ⟨r, es, f, vs, by rw [hi]; exact e1, by rw [hw]; exact e2, h1, by rw [h2]; exact e4, ⟨k.len, k.lenv, fun i a en v q1 q2 q3 => by
    obtain ⟨k1, k2, kvs, k3, k4⟩ := k.at_ i a en v q1 q2 q3
    exact ⟨k1, k2, kvs, k3, hA0 hk _ _ _ k4⟩⟩⟩
 | .rowg e t p fid xs hole, ok, ⟨f, vs, flat, e1, e2, e3, k, k1⟩ => by
   obtain ⟨h1, h2⟩ := hσ fid (ok fid (by simp [idsX, fidB]))
   exact ⟨f, vs, flat, h1, by rw [h2]; exact e2, e3, by rw [hi, hw]; exact k, fA0 (fA1 hk) _ _ k1⟩
 | .lenb n, _, ⟨a, c, e1, k⟩ => ⟨a, c, by rw [hi]; exact e1, k⟩
 | .scell cs, ok, ⟨b, vs, e1, k, k1⟩ => ⟨b, vs, by rw [hi]; exact e1, hA3 hk hσ cs vs (fun q hq => ok q (by simp [idsX, idsB, hq])) k, k1.keep hk⟩
theorem cD0 (hw : y.w = x.w) (hk : Keep x.w y.w x.O y.O) (hσ : ∀ k, OK k → ¬ y.N k ∧ y.σ k = x.σ (ρ k)) {i j : Nat} (hi : y.σ j = x.σ i) : ∀ (B : Blk), (∀ k ∈ idsX B, OK k) → repB x i (rnB ρ B) → repB y j B
 | .dead, _, _ => trivial
 | .cells e cs, ok, ⟨b, vs, e1, e2, k, k1⟩ => ⟨b, vs, by rw [hi]; exact e1, by rw [hw]; exact e2, eA4 hk hσ cs vs (fun q hq => ok q (by simp [idsX, idsB, hq])) k, k1⟩
 | .row e t xs, _, ⟨n, flat, e1, k, k1⟩ => ⟨n, flat, e1, by rw [hi, hw]; exact k, fA0 (hA0 hk t) _ _ k1⟩
 | .settled t xs, _, k => by
   show ro y.w y.O (.sl t) xs [y.σ j]
   rw [hi]; exact hA0 hk _ _ _ k
 | .mapb kt vt ka va l, _, ⟨r, es, cl, e1, e2, k, ks⟩ => ⟨r, es, cl, by rw [hi]; exact e1, by rw [hw]; exact e2, sA8 hk l _ k, ks⟩
 | .fam e t xss, _, ⟨f, vs, e1, k1⟩ => ⟨f, vs, by rw [hi]; exact e1, rB2 hw hk k1⟩
 | .mapg kt ka fid ks hole, ok, ⟨r, es, f, vs, e1, e2, e3, e4, k⟩ => by
   obtain ⟨h1, h2⟩ := hσ fid (ok fid (by simp [idsX, fidB])); exact ⟨r, es, f, vs, by rw [hi]; exact e1, by rw [hw]; exact e2, h1, by rw [h2]; exact e4, ⟨k.len, k.lenv, fun i a en v q1 q2 q3 => by
    obtain ⟨k1, k2, kvs, k3, k4⟩ := k.at_ i a en v q1 q2 q3
    exact ⟨k1, k2, kvs, k3, hA0 hk _ _ _ k4⟩⟩⟩
 | .rowg e t p fid xs hole, ok, ⟨f, vs, flat, e1, e2, e3, k, k1⟩ => by
   obtain ⟨h1, h2⟩ := hσ fid (ok fid (by simp [idsX, fidB]))
   exact ⟨f, vs, flat, h1, by rw [h2]; exact e2, e3, by rw [hi, hw]; exact k, fA0 (fA1 hk) _ _ k1⟩
 | .lenb n, _, ⟨a, c, e1, k⟩ => ⟨a, c, by rw [hi]; exact e1, k⟩
 | .scell cs, ok, ⟨b, vs, e1, k, k1⟩ => ⟨b, vs, by rw [hi]; exact e1, eA4 hk hσ cs vs (fun q hq => ok q (by simp [idsX, idsB, hq])) k, k1.keep hk⟩
end
end Go.Ev

namespace Go.Ev
def rnL (L : List (Nat × Nat)) (fr k : Nat) : Nat := if k < 32 then (findL L k).getD 0 else fr + (k - 32)
def okL (L : List (Nat × Nat)) (k : Nat) : Bool := (L.map (·.1)).contains k || (decide (32 ≤ k) && decide (k < 64))
def oldU (ρ : Nat → Nat) : List (Nat × Nat) → List Blk → Heap
 | p :: L, b :: bs => (p.2, rnB ρ b) :: oldU ρ L bs
 | _, _ => []
def newU (ρ : Nat → Nat) (fr : Nat) : Heap → Heap
 | [] => []
 | (q, b) :: r => (fr + q, rnB ρ b) :: newU ρ fr r
def oldH : List (Nat × Nat) → List Blk → Heap
 | p :: L, b :: bs => (p.1, b) :: oldH L bs
 | _, _ => []
def newH : Heap → Heap
 | [] => []
 | (q, b) :: r => (32 + q, b) :: newH r
def resS : Nat → List AV → Slots
 | _, [] => []
 | i, v :: vs => (i, v) :: resS (i + 1) vs
theorem tB5 : ∀ (L : List (Nat × Nat)) (bs : List Blk), oldH L bs = (L.zip bs).map (fun t => (t.1.1, t.2))
 | [], _ => by simp [oldH]
 | _ :: _, [] => by simp [oldH]
 | p :: L, b :: bs => by simp [oldH, tB5 L bs]
theorem eB5 (ρ : Nat → Nat) : ∀ (L : List (Nat × Nat)) (bs : List Blk), oldU ρ L bs = (L.zip bs).map (fun t => (t.1.2, rnB ρ t.2))
 | [], _ => by simp [oldU]
 | _ :: _, [] => by simp [oldU]
 | p :: L, b :: bs => by simp [oldU, eB5 ρ L bs]
theorem qB3 (ρ : Nat → Nat) : ∀ (L : List (Nat × Nat)) (bs : List Blk), bs.length = L.length → (oldU ρ L bs).map (·.1) = L.map (·.2)
 | [], _, _ => by simp [oldU]
 | _ :: _, [], h => by simp at h
 | p :: L, b :: bs, h => by simp [oldU, qB3 ρ L bs (by simpa using h)]
theorem xB2 : ∀ (L : List (Nat × Nat)) (bs : List Blk), bs.length = L.length → (oldH L bs).map (·.1) = L.map (·.1)
 | [], _, _ => by simp [oldH]
 | _ :: _, [], h => by simp at h
 | p :: L, b :: bs, h => by simp [oldH, xB2 L bs (by simpa using h)]
theorem xA7 : ∀ (H : Heap), newH H = H.map (fun t => (32 + t.1, t.2))
 | [] => rfl
 | (q, b) :: r => by simp [newH, xA7 r]
theorem gA8 (ρ : Nat → Nat) (fr : Nat) : ∀ (H : Heap), newU ρ fr H = H.map (fun t => (fr + t.1, rnB ρ t.2))
 | [] => rfl
 | (q, b) :: r => by simp [newU, gA8 ρ fr r]
theorem vB6 : ∀ (vs : List AV) (i q : Nat), q < vs.length → sget (resS i vs) (i + q) = vs.getD q (.one .undef)
 | [], _, q, h => by simp at h
 | v :: vs, i, 0, _ => by simp [resS, sget, getL]
 | v :: vs, i, q + 1, h => by
   have := vB6 vs (i + 1) q (by simpa using h); simp only [resS, sget, getL] at this ⊢; rw [if_neg (by omega), show i + (q + 1) = i + 1 + q by omega]; simpa using this
theorem sB7 {x : Rx} : ∀ (vs : List AV) (us : List Value), us.length = vs.length → (∀ q, q < vs.length → repA x (vs.getD q (.one .undef)) (us.getD q undef)) → repAs x vs us
 | [], us, hl, _ => by unfold repAs; exact List.eq_nil_of_length_eq_zero hl
 | v :: vs, [], hl, _ => by simp at hl
 | v :: vs, u :: us, hl, h => by
   unfold repAs; refine ⟨u, us, rfl, ?_, sB7 vs us (by simpa using hl) (fun q hq => ?_)⟩
   · simpa using h 0 (by simp)
   · simpa using h (q + 1) (by simpa using hq)
def rawPost (T : Tab) (rv : List ResultVar) (L : List (Nat × Nat)) {Y : Type} (Φ : Y → Prop) (rs : Y → List AV) (old : Y → List Blk) (new : Y → Heap) : Ex → St → Prop := fun e st =>
 match e with
 | .exit _ => False
 | _ => rvP T st.s (mem st.m) rv ∧ ∃ y, Φ y ∧ ent (rvS T st.s (mem st.m) 0 rv) (mem st.m) 64 (resS 0 (rs y)) (oldH L (old y) ++ newH (new y))
section
variable {P : Program} {T : Tab} {G : Env}
theorem cB2 (ht : TabOK P T) (hm : P.follows .mixedOrders = true) {f : FuncId} {fn : Func} {c : Code} (hf : P.funcs[f]? = some fn) (hb : fn.body = some c) (ks : Nat)
 (hfine : fineC fn.ntmps c = true) (hr4 : fn.results.size ≤ 4)
 {cx : Cx} (hG : EnvD cx.D cx.gv P G) {σ : Nat → Value} {N : Nat → Prop} {m : Mem} {w : World} {fr : Nat} {vs : List Value} (hM : RepM cx σ N m w) (hfr : ∀ id, fr ≤ id → id < fr + 32 → N id) (hn2 : vs.length ≤ fn.ntmps)
 (L : List (Nat × Nat)) (hL1 : (L.map (·.1)).Nodup) (hL2 : (L.map (·.2)).Nodup) (hL3 : ∀ p ∈ L, p.1 < 32 ∧ own (m p.2) = true)
 (vw : List Nat) (hvw1 : ∀ p ∈ L, p.2 ∉ vw) (hvw2 : ∀ id ∈ vw, ∃ u xs, m id = .settled u xs ∨ ∃ e, m id = .row e u xs)
 (s0 : Slots) (H0 : Heap) (hH : ∀ i, mem H0 i ≠ .dead → ∃ id, (i, id) ∈ L)
 (hrep : ∀ x1 : Rx, x1.w = w → (∀ b, x1.O b → Owned cx σ (updM m (vw.map (settle m))) b) → (∀ i id, (i, id) ∈ L → x1.σ i = σ id ∧ ¬ x1.N i) →
   (∀ i id, (i, id) ∈ L → repB x1 i (mem H0 i)) ∧ (∀ j v, (j, v) ∈ s0 → repA x1 v (vs.getD j undef)))
 {Y : Type} (Φ : Y → Prop) (rs : Y → List AV) (old : Y → List Blk) (new : Y → Heap)
 (hY : ∀ y, Φ y → (rs y).length = fn.results.size ∧ (old y).length = L.length ∧ ((new y).map (·.1)).Nodup ∧ (∀ p ∈ new y, p.1 < 32) ∧
   (∀ k ∈ idsAs (rs y), okL L k = true) ∧ (∀ b ∈ old y, ∀ k ∈ idsX b, okL L k = true) ∧ (∀ p ∈ new y, ∀ k ∈ idsX p.2, okL L k = true))
 (h : ∀ X : Wk, X.T = T → X.G = G → X.ks = ks → X.K = rawPost T fn.results.toList L Φ rs old new → evk X c s0 H0 32 []) :
 Calls P f vs.toArray w fun e w' => ∃ u, e = .returned u ∧ ∃ y, Φ y ∧ Res cx σ N m w fr ⟨True, pack (rnAs (rnL L fr) (rs y)), vw.map (settle m) ++ (oldU (rnL L fr) L (old y) ++ newU (rnL L fr) fr (new y)), True⟩ u w' := by
 let fp : Nat → Option Nat := fun i => findL L i
 have fp_mem : ∀ i id, fp i = some id ↔ (i, id) ∈ L := fun i id => ⟨jA1, yA3 _ _ _ hL1⟩; have fp_lt : ∀ i id, fp i = some id → i < 32 := fun i id hi => (hL3 _ ((fp_mem i id).1 hi)).1; have fp_own : ∀ i id, fp i = some id → own (m id) = true := fun i id hi => (hL3 _ ((fp_mem i id).1 hi)).2; have fp_inj : ∀ i j id, fp i = some id → fp j = some id → i = j := fun i j id hi hj => by
  have h1 := (fp_mem i id).1 hi; have h2 := (fp_mem j id).1 hj; clear fp_mem fp_lt fp_own hi hj hL1 hL3 hvw1 hH hrep h hY; clear fp
  induction L with
  | nil => cases h1
  | cons p l ih =>
    rw [List.map_cons, List.nodup_cons] at hL2
    rcases List.mem_cons.1 h1 with e1 | e1 <;> rcases List.mem_cons.1 h2 with e2 | e2
    · rw [← e1] at e2; cases e2; rfl
    · rw [← e1] at hL2; exact absurd (List.mem_map.2 ⟨_, e2, rfl⟩) hL2.1
    · rw [← e2] at hL2; exact absurd (List.mem_map.2 ⟨_, e1, rfl⟩) hL2.1
    · exact ih hL2.2 e1 e2
 have fp_vw : ∀ i id, fp i = some id → id ∉ vw := fun i id hi => hvw1 _ ((fp_mem i id).1 hi)
 let σ1 : Nat → Value := fun i => match fp i with | some id => σ id | none => σ 0
 have σ1_of : ∀ i id, fp i = some id → σ1 i = σ id := fun i id hi => by simp only [σ1, hi]
 let cx1 : Cx := ⟨w, fun b => cx.F b ∨ ∃ id, own (m id) = true ∧ Go.Ev.hb (σ id) b ∧ id ∉ vw ∧ ∀ i, fp i ≠ some id, fun b => ∃ id i, own (m id) = true ∧ Go.Ev.hb (σ id) b ∧ fp i = some id, 32, σ1, [], fun _ => none, cx.D, cx.gv⟩
 have hu : ∀ id, updM m (vw.map (settle m)) id = if id ∈ vw then (settle m id).2 else m id := fun id => zA0 m vw m id (fun i _ => .inl rfl)
 obtain ⟨hM2, k2⟩ := hM.settles vw; have ph_mem : ∀ i, mem H0 i ≠ .dead → ∃ id, fp i = some id := fun i hi => by
  obtain ⟨id, hid⟩ := hH i hi; exact ⟨id, (fp_mem i id).2 hid⟩
 let x1 : Rx := rx cx1 σ1 (From 32) (mem H0) w
 have hO : ∀ b, x1.O b → Owned cx σ (updM m (vw.map (settle m))) b := by
  rintro b ((hb | ⟨id, h1, h2, h3, _⟩) | ⟨i, h1, h2⟩)
  · exact .inl hb
  · exact .inr ⟨id, by rw [hu, if_neg h3]; exact h1, h2⟩
  · obtain ⟨id, h4⟩ := ph_mem i (fun e => by rw [e] at h1; cases h1); exact .inr ⟨id, by rw [hu, if_neg (fp_vw i id h4)]; exact fp_own i id h4, by rw [← σ1_of i id h4]; exact h2⟩
 have hpt : ∀ j id, (j, id) ∈ L → x1.σ j = σ id ∧ ¬ x1.N j := fun j id hj => by
  have hf := (fp_mem j id).2 hj; refine ⟨σ1_of j id hf, fun hN => ?_⟩; have := fp_lt j id hf; unfold x1 rx From at hN; simp only at hN; omega
 obtain ⟨hB0, hS0⟩ := hrep x1 rfl hO hpt; have hgl1 : GlOk cx1 := by
  refine hM.gl_next rfl rfl ?_ ?_
  · intro b hb
    rcases hb with k1 | ⟨jd, k1, k2, _, _⟩
    · exact .inl k1
    · exact .inr ⟨jd, k1, k2⟩
  · rintro b ⟨jd, _, k1, k2, _⟩; exact ⟨jd, k1, k2⟩
 have hM1 : RepM cx1 σ1 (From 32) (mem H0) w := by
  refine ⟨fun i => ?_, fun i hi => ?_, fun i j b ho ho' hb hb' => ?_, fun i b ho hb => ?_, fun i b ho hb => ?_, ⟨rfl, rfl, rfl, fun _ => Nat.le_refl _, Nat.le_refl _, fun _ _ _ => rfl⟩, fun b hb => ?_, fun i => ?_, fun i hi => ⟨fun hN => by unfold From at hN; exact absurd hi (by simp only [cx1]; omega), rfl⟩, (fun _ hD => by cases hD), hgl1⟩
  · by_cases hd : mem H0 i = .dead
    · rw [hd]; trivial
    · obtain ⟨id, h4⟩ := ph_mem i hd; exact hB0 i id ((fp_mem i id).1 h4)
  · by_cases hd : mem H0 i = .dead
    · exact hd
    · obtain ⟨id, h4⟩ := ph_mem i hd; have := fp_lt i id h4; unfold From at hi; omega
  · obtain ⟨id, h4⟩ := ph_mem i (fun e => by rw [e] at ho; cases ho); obtain ⟨jd, g4⟩ := ph_mem j (fun e => by rw [e] at ho'; cases ho'); rw [σ1_of i id h4] at hb; rw [σ1_of j jd g4] at hb'; have := hM.inj id jd b (fp_own i id h4) (fp_own j jd g4) hb hb'; subst this; exact fp_inj i j id h4 g4
  · obtain ⟨id, h4⟩ := ph_mem i (fun e => by rw [e] at ho; cases ho); rw [σ1_of i id h4] at hb; rintro (k1 | ⟨jd, k1, k2, _, k4⟩)
    · exact hM.notF id b (fp_own i id h4) hb k1
    · have := hM.inj id jd b (fp_own i id h4) k1 hb k2; subst this; exact k4 i h4
  · obtain ⟨id, h4⟩ := ph_mem i (fun e => by rw [e] at ho; cases ho); rw [σ1_of i id h4] at hb; exact .inr ⟨id, i, fp_own i id h4, hb, h4⟩
  · rcases hb with k1 | ⟨jd, k1, k2, _, _⟩
    · exact hM.hF b k1
    · exact xA3 (hM.blk jd) k1 b k2
  · simp only [σ1]; split
    · exact hM.hone _
    · exact hM.hone 0
 have hF1 : RepF cx1 σ1 (From 32) (sget s0) (mem H0) fn.ntmps { tmps := vs.toArray ++ Array.replicate (fn.ntmps - vs.toArray.size) undef, defers := [] } w := by
  refine ⟨hM1, fun i => ?_, rfl, by simp; omega, fun i v hv => by cases hv⟩
  rcases gA2 (d := AV.one .undef) s0 i with e | e
  · unfold sget; rw [e]; unfold repA repC; trivial
  · have e2 := hS0 i _ e; have ee : (vs.toArray ++ Array.replicate (fn.ntmps - vs.toArray.size) undef).getD i undef = vs.getD i undef := by
     rw [Array.getD_eq_getD_getElem?, List.getD_eq_getElem?_getD]; by_cases hq : i < vs.length
     · rw [Array.getElem?_append_left (by simpa using hq)]; simp
     · rw [Array.getElem?_append_right (by simp; omega), List.getElem?_eq_none (by omega)]; simp [Array.getElem?_replicate]; split <;> rfl
    show repA x1 _ _; simp only; rw [ee]; exact e2
 refine callsIn_wide.1 (callsIn_of_wp_marks (F := Fence.wide) (n := 3) hf hb trivial ?_); have hevk := h ⟨T, G, ks, rawPost T fn.results.toList L Φ rs old new⟩ rfl rfl rfl rfl; refine uA2 ht hG hm c cx1 Fence.wide 3 ⟨s0, H0, 32⟩ _ _ _ w σ1 ⟨rfl, rfl⟩ (Nat.le_refl _) (.inl rfl) (.inl ⟨rfl, rfl, fun _ => rfl⟩) hfine ⟨List.nodup_nil, fun _ hD => by cases hD⟩ hevk hF1 (fun e st a1 w1 σ' mk hK hmk _ h1 => ?_); have hend : ∀ (a : Act) (w' : World) (h' : RepF cx1 σ' (From st.fr) (sget st.s) (mem st.m) fn.ntmps a w'), (rvP T st.s (mem st.m) fn.results.toList ∧ ∃ y, Φ y ∧ ent (rvS T st.s (mem st.m) 0 fn.results.toList) (mem st.m) 64 (resS 0 (rs y)) (oldH L (old y) ++ newH (new y))) →
  ∃ v, (results fn a.tmps).run P w' = .ok v w' ∧ ∃ u, Ending.returned v = Ending.returned u ∧ ∃ y, Φ y ∧ Res cx σ N m w fr ⟨True, pack (rnAs (rnL L fr) (rs y)), vw.map (settle m) ++ (oldU (rnL L fr) L (old y) ++ newU (rnL L fr) fr (new y)), True⟩ u w' := by
  rintro a w' h' ⟨hrv, y, hΦ, hent⟩; obtain ⟨y1, y2, y3, y4, y5, y6, y7⟩ := hY y hΦ; obtain ⟨us, hul, hrun, hus⟩ := xC7 ht h' fn hrv hr4; refine ⟨packV us, hrun, packV us, rfl, y, hΦ, ?_⟩; obtain ⟨σ2, hM3, hs3, hO3⟩ := h'.mm.ent (Nat.le_refl _) hent (fun j => us.getD j undef) (fun j => by
   rcases gA2 (d := AV.one .undef) (rvS T st.s (mem st.m) 0 fn.results.toList) j with e | e
   · unfold sget; rw [e]; unfold repA repC; trivial
   · exact (hus j _ e).2)
  generalize hHe : oldH L (old y) ++ newH (new y) = H at *
  let ρ := rnL L fr
  have ρ_fp : ∀ i id, fp i = some id → ρ i = id := fun i id hi => by
   have := fp_lt i id hi; simp only [ρ, rnL, if_pos this]; simp only [fp] at hi; rw [hi]; rfl
  have ρ_new : ∀ q, ρ (32 + q) = fr + q := fun q => by
   simp only [ρ, rnL]; rw [if_neg (by omega)]; omega
  let mA : Mem := updM m (vw.map (settle m))
  have hA : RepM cx σ N mA w := hM2; have kA : Rx.Keeps (rx cx σ N m w) (rx cx σ N mA w) := k2; have mA_out : ∀ id, id ∉ vw → mA id = m id := fun id hid => by
   simp only [mA]; rw [hu, if_neg hid]
  have mA_vw : ∀ id, id ∈ vw → own (mA id) = false := fun id hid => by
   simp only [mA]; rw [hu, if_pos hid]; obtain ⟨u, xs, e | ⟨e', e⟩⟩ := hvw2 id hid <;> simp [settle, e, own]
  have fresh_vw : ∀ id, N id → id ∉ vw := fun id hn hid => by
   have h1 := hM.fresh id hn; obtain ⟨u, xs, e | ⟨e', e⟩⟩ := hvw2 id hid <;> rw [h1] at e <;> cases e
  have fresh_fp : ∀ id i, N id → fp i ≠ some id := fun id i hn hi => by
   have h1 := hM.fresh id hn; have h2 := fp_own i id hi; rw [h1] at h2; cases h2
  have hzl : (L.zip (old y)).map (fun t => t.1) = L := by rw [List.map_fst_zip]; omega
  have hkeysfr : ∀ p ∈ newU ρ fr (new y), fr ≤ p.1 ∧ p.1 < fr + 32 := fun p hp => by
   rw [gA8] at hp; obtain ⟨q, hq, e⟩ := List.mem_map.1 hp; have := y4 q hq; rw [← e]; simp only; omega
  have hkeysold : ∀ p ∈ oldU ρ L (old y), ∃ i, fp i = some p.1 := fun p hp => by
   rw [eB5] at hp; obtain ⟨t, ht', e⟩ := List.mem_map.1 hp; have := (List.of_mem_zip ht').1; exact ⟨t.1.1, (fp_mem _ _).2 (by rw [← e]; exact this)⟩
  let M : Mem := updM m (vw.map (settle m) ++ (oldU ρ L (old y) ++ newU ρ fr (new y)))
  have hMe : M = updM (updM mA (oldU ρ L (old y))) (newU ρ fr (new y)) := by
   simp only [M]; rw [yA0, yA0]
  have nodU : ((oldU ρ L (old y)).map (·.1)).Nodup := by
   rw [qB3 ρ L (old y) y2]; exact hL2
  have nodO : ((oldH L (old y)).map (·.1)).Nodup := by
   rw [xB2 L (old y) y2]; exact hL1
  have old_at : ∀ i id, fp i = some id → ∃ b, ((i, id), b) ∈ L.zip (old y) := fun i id hi => by
   have h1 := (fp_mem i id).1 hi; rw [← hzl] at h1; obtain ⟨t, ht', e⟩ := List.mem_map.1 h1; exact ⟨t.2, by rw [← e]; exact ht'⟩
  have newH_key : ∀ p ∈ newH (new y), 32 ≤ p.1 := fun p hp => by
   rw [xA7] at hp; obtain ⟨t, ht', e⟩ := List.mem_map.1 hp; rw [← e]; simp
  have oldH_key : ∀ p ∈ oldH L (old y), p.1 < 32 := fun p hp => by
   rw [tB5] at hp; obtain ⟨t, ht', e⟩ := List.mem_map.1 hp; have := (List.of_mem_zip ht').1; rw [← e]; exact (hL3 _ this).1
  have okP : ∀ k, okL L k = true → (∃ id, fp k = some id) ∨ (32 ≤ k ∧ k < 64) := fun k hk => by
   unfold okL at hk; simp only [Bool.or_eq_true, Bool.and_eq_true, decide_eq_true_eq] at hk
   rcases hk with hk | hk
   · obtain ⟨p, hp, e⟩ := List.mem_map.1 (List.contains_iff_mem.1 hk); exact .inl ⟨p.2, (fp_mem _ _).2 (by rw [← e]; exact hp)⟩
   · exact .inr hk
  have M2 : ∀ i id, fp i = some id → M id = rnB ρ (mem H i) ∧ ∀ k ∈ idsX (mem H i), okL L k = true := fun i id hi => by
   obtain ⟨b, hbz⟩ := old_at i id hi; have g1 : M id = rnB ρ b := by
    rw [hMe, uA0 _ _ _ (fun p hp e => by have := hkeysfr p hp; exact fresh_fp id i (hfr id (by omega) (by omega)) hi)]; exact jA3 nodU (by rw [eB5]; exact List.mem_map.2 ⟨_, hbz, rfl⟩)
   have g2 : mem H i = b := by
    rw [← hHe, mem_append_left (fun p hp => by have := newH_key p hp; have := fp_lt i id hi; omega)]; exact jA4 nodO (by rw [tB5]; exact List.mem_map.2 ⟨_, hbz, rfl⟩)
   rw [g2]; exact ⟨g1, y6 b (List.of_mem_zip hbz).2⟩
  have M1 : ∀ q, q < 32 → M (fr + q) = rnB ρ (mem H (32 + q)) ∧ ∀ k ∈ idsX (mem H (32 + q)), okL L k = true := fun q hq => by
   have hN : N (fr + q) := hfr _ (by omega) (by omega); have hb : updM mA (oldU ρ L (old y)) (fr + q) = .dead := by
    rw [uA0 _ _ _ (fun p hp e => by
     obtain ⟨i, hi⟩ := hkeysold p hp; exact fresh_fp (fr + q) i hN (by rw [← e]; exact hi)), mA_out _ (fresh_vw _ hN)]
    exact hM.fresh _ hN
   have hHq : mem H (32 + q) = mem (newH (new y)) (32 + q) := by
    rw [← hHe, mem_append (fun p hp => by have := oldH_key p hp; omega)]
   by_cases hex : ∃ b, (q, b) ∈ new y
   · obtain ⟨b, hqb⟩ := hex; have g1 : M (fr + q) = rnB ρ b := by
      rw [hMe]; refine jA3 ?_ (by rw [gA8]; exact List.mem_map.2 ⟨_, hqb, rfl⟩); rw [gA8, List.map_map]; have : ((new y).map ((fun x => x.1) ∘ fun t => (fr + t.1, rnB ρ t.2))) = ((new y).map (·.1)).map (fr + ·) := by rw [List.map_map]; rfl
      rw [this]; exact kA4 _ y3
     have g2 : mem (newH (new y)) (32 + q) = b := by
      refine jA4 ?_ (by rw [xA7]; exact List.mem_map.2 ⟨_, hqb, rfl⟩); rw [xA7, List.map_map]; have : ((new y).map ((fun x => x.1) ∘ fun t => (32 + t.1, t.2))) = ((new y).map (·.1)).map (32 + ·) := by rw [List.map_map]; rfl
      rw [this]; exact kA4 _ y3
     rw [hHq, g2]; exact ⟨g1, y7 _ hqb⟩
   · have g2 : mem (newH (new y)) (32 + q) = .dead := by
      refine iB8 fun p hp e => hex ?_; rw [xA7] at hp; obtain ⟨r, hr, e2⟩ := List.mem_map.1 hp; refine ⟨r.2, ?_⟩; have : r.1 = q := by rw [← e2] at e; simp only at e; omega
      rw [← this]; exact hr
     rw [hHq, g2]; refine ⟨?_, fun k hk => by cases hk⟩; rw [hMe, uA0 _ _ _ (fun p hp e => hex ?_)]
     · exact hb
     · rw [gA8] at hp; obtain ⟨r, hr, e2⟩ := List.mem_map.1 hp; refine ⟨r.2, ?_⟩; have : r.1 = q := by rw [← e2] at e; simp only at e; omega
       rw [← this]; exact hr
  have M3 : ∀ id, (∀ i, fp i ≠ some id) → ¬ (fr ≤ id ∧ id < fr + 32) → M id = mA id := fun id h1 h2 => by
   rw [hMe, uA0 _ _ _ (fun p hp e => h2 (by rw [← e]; exact hkeysfr p hp)), uA0 _ _ _ (fun p hp e => by
    obtain ⟨i, hi⟩ := hkeysold p hp; exact h1 i (by rw [← e]; exact hi))]
  let σf : Nat → Value := fun id => if fr ≤ id ∧ id < fr + 32 then σ2 (32 + (id - fr)) else σ id
  have σf_new : ∀ q, q < 32 → σf (fr + q) = σ2 (32 + q) := fun q hq => by
   simp only [σf]; rw [if_pos ⟨by omega, by omega⟩]; congr 1; omega
  have σf_old : ∀ id, ¬ (fr ≤ id ∧ id < fr + 32) → σf id = σ id := fun id hid => by simp only [σf]; rw [if_neg hid]
  have σ2_fp : ∀ i id, fp i = some id → σ2 i = σ id := fun i id hi => by
   have := fp_lt i id hi; have h1 := (hM3.fix i (by simp only [cx1]; omega)).2; rw [h1]; exact σ1_of i id hi
  have fp_new : ∀ i id, fp i = some id → ¬ (fr ≤ id ∧ id < fr + 32) := fun i id hi hh => fresh_fp id i (hfr id hh.1 hh.2) hi; have fp_notN : ∀ i id, fp i = some id → ¬ N id := fun i id hi hn => fresh_fp id i hn hi; have ρσ : ∀ k, okL L k = true → ¬ (Nx N fr) (ρ k) ∧ σf (ρ k) = σ2 k := fun k hk => by
   rcases okP k hk with ⟨id, hid⟩ | ⟨h1, h2⟩
   · rw [ρ_fp k id hid]; exact ⟨fun hn => fp_notN k id hid hn.1, by rw [σf_old id (fp_new k id hid), σ2_fp k id hid]⟩
   · obtain ⟨q, rfl⟩ : ∃ q, k = 32 + q := ⟨k - 32, by omega⟩; rw [ρ_new q]; exact ⟨fun hn => hn.2 ⟨by omega, by omega⟩, σf_new q (by omega)⟩
  have tchd : ∀ id, ((∃ i, fp i = some id) ∨ (fr ≤ id ∧ id < fr + 32)) → ∃ k, M id = rnB ρ (mem H k) ∧ σf id = σ2 k ∧ (∀ j ∈ idsX (mem H k), okL L j = true) ∧ (fp k = some id ∨ (32 ≤ k ∧ id = fr + (k - 32) ∧ k < 64)) := by
   rintro id (⟨i, hi⟩ | ⟨h1, h2⟩)
   · obtain ⟨g1, g2⟩ := M2 i id hi; exact ⟨i, g1, by rw [σf_old id (fp_new i id hi), σ2_fp i id hi], g2, .inl hi⟩
   · obtain ⟨q, rfl⟩ : ∃ q, id = fr + q := ⟨id - fr, by omega⟩; obtain ⟨g1, g2⟩ := M1 q (by omega); exact ⟨32 + q, g1, σf_new q (by omega), g2, .inr ⟨by omega, by omega, by omega⟩⟩
  have hev := hM3.evo; have stp := hA.stepD (σ' := σf) (N' := Nx N fr) (m' := M) (w' := w') (fun id => (∃ i, fp i = some id) ∨ (fr ≤ id ∧ id < fr + 32)) (fun id hid => hid.1)
   (fun id hid => by
     rw [M3 id (fun i hi => fresh_fp id i hid.1 hi) hid.2, mA_out id (fresh_vw id hid.1)]; exact hM.fresh id hid.1)
   (fun id hid => ⟨M3 id (fun i hi => hid (.inl ⟨i, hi⟩)) (fun h => hid (.inr h)), σf_old id (fun h => hid (.inr h))⟩)
   (fun id hid => σf_old id (fun h => hid (hfr id h.1 h.2)))
   (fun b hb hno => hev.block b hb (fun ⟨id, i, h1, h2, h3⟩ => hno id (.inl ⟨i, h3⟩) (by rw [mA_out id (fp_vw i id h3)]; exact h1) h2))
   ⟨hev.size, hev.drawn⟩ hev.os hev.tape hev.output
   (fun id b hid ho hb => by
     obtain ⟨k, e1, e2, e3, e4⟩ := tchd id hid; rw [e1, jB2] at ho; rw [e2] at hb
     rcases hM3.low k b ho hb with h1 | ⟨jd, i, h1, h2, h3⟩
     · exact .inl h1
     · exact .inr ⟨jd, .inl ⟨i, h3⟩, by rw [mA_out jd (fp_vw i jd h3)]; exact h1, h2⟩)
   (fun id id' b hid hid' ho ho' hb hb' => by
     obtain ⟨k, e1, e2, e3, e4⟩ := tchd id hid; obtain ⟨k', g1, g2, g3, g4⟩ := tchd id' hid'; rw [e1, jB2] at ho; rw [e2] at hb; rw [g1, jB2] at ho'; rw [g2] at hb'; have := hM3.inj k k' b ho ho' hb hb'; subst this
     rcases e4 with e4 | e4 <;> rcases g4 with g4 | g4
     · rw [e4] at g4; cases g4; rfl
     · have := fp_lt k id e4; omega
     · have := fp_lt k id' g4; omega
     · omega)
   (fun id hid => by
     obtain ⟨k, e1, e2, e3, e4⟩ := tchd id hid; rw [e2]; exact hM3.hone k)
  have hOf : ∀ b, Owned cx σf M b → Owned cx1 σ2 (mem H) b := by
   rintro b (hb | ⟨id, ho, hb⟩)
   · exact .inl (.inl hb)
   · by_cases ht : (∃ i, fp i = some id) ∨ (fr ≤ id ∧ id < fr + 32)
     · obtain ⟨k, e1, e2, e3, e4⟩ := tchd id ht; exact .inr ⟨k, by rw [← jB2 ρ, ← e1]; exact ho, by rw [← e2]; exact hb⟩
     · have e1 := M3 id (fun i hi => ht (.inl ⟨i, hi⟩)) (fun h => ht (.inr h)); have e2 := σf_old id (fun h => ht (.inr h)); rw [e1] at ho; rw [e2] at hb; have hv : id ∉ vw := fun hid => by rw [mA_vw id hid] at ho; cases ho
       rw [mA_out id hv] at ho; exact .inl (.inr ⟨id, ho, hb, hv, fun i hi => ht (.inl ⟨i, hi⟩)⟩)
  have hkp : Keep (rx cx1 σ2 (From 64) (mem H) w').w (rx cx σf (Nx N fr) M w').w (rx cx1 σ2 (From 64) (mem H) w').O (rx cx σf (Nx N fr) M w').O := keepsw (x := rx cx1 σ2 (From 64) (mem H) w') (y := rx cx σf (Nx N fr) M w') rfl hOf; obtain ⟨hMf, kf⟩ := stp (fun hk id hid => by
   obtain ⟨k, e1, e2, e3, e4⟩ := tchd id hid; rw [e1]; exact kD1 (x := rx cx1 σ2 (From 64) (mem H) w') (y := rx cx σf (Nx N fr) M w') (OK := fun k => okL L k = true) rfl hkp ρσ e2 _ e3 (hM3.blk k))
  refine ⟨σf, hMf, ?_, ?_, trivial⟩
  · refine ⟨kA.k.trans kf.k (Nat.le_refl _), fun id hid => kf.σ id hid, fun id hid => hid.1⟩
  · refine gB7 ?_; refine uB1 (x := rx cx1 σ2 (From 64) (mem H) w') (y := rx cx σf (Nx N fr) M w') (OK := fun k => okL L k = true) hkp ρσ _ _ y5 (sB7 _ _ (by omega) (fun q hq => ?_)); have := hs3 q; have e := vB6 (rs y) 0 q hq; rw [Nat.zero_add] at e; rw [e] at this; exact this
 have hleave := fun (hp : rvP T st.s (mem st.m) fn.results.toList ∧ ∃ y, Φ y ∧ ent (rvS T st.s (mem st.m) 0 fn.results.toList) (mem st.m) 64 (resS 0 (rs y)) (oldH L (old y) ++ newH (new y))) =>
  lA6 (P := P) (fn := fn) (R := fun e w' => ∃ u, e = .returned u ∧ ∃ y, Φ y ∧ Res cx σ N m w fr ⟨True, pack (rnAs (rnL L fr) (rs y)), vw.map (settle m) ++ (oldU (rnL L fr) L (old y) ++ newU (rnL L fr) fr (new y)), True⟩ u w') mk w1 h1 hmk (fun w2 h2 => hend ⟨a1.tmps, []⟩ w2 h2 hp)
 cases e with
 | exit id => exact hK.elim
 | normal => exact hleave hK
 | ret => exact hleave hK
end
end Go.Ev

set_option maxRecDepth 100000
set_option maxHeartbeats 8000000
namespace Go.Proofs.YtabadacjbkhmkaaGreatDoor
open Go.Ev
attribute [local go_sem] List.set_cons_succ List.set_cons_zero List.getD_cons_succ List.getD_cons_zero List.set_nil
def cpyG (xs ys : List (List Int)) (fr : Nat) : Heap := [(fr, .rowg 22 (.sl yI) 0 (fr + 1) (List.replicate xs.length []) none), (fr + 1, .fam 3 yI xs), (fr + 2, .rowg 22 (.sl yI) 0 (fr + 3) (List.replicate ys.length []) none), (fr + 3, .fam 3 yI ys)]
def cpyN (xs ys : List (List Int)) : Heap := [(0, .rowg 22 (.sl yI) 0 33 (List.replicate xs.length []) none), (1, .fam 3 yI xs), (2, .rowg 22 (.sl yI) 0 35 (List.replicate ys.length []) none), (3, .fam 3 yI ys)]
def cpyP (xs ys : List (List Int)) : Prop := (xs.length ≤ 1000 ∧ ys.length ≤ 1000) ∧ (∀ s ∈ xs, s.length ≤ 1000000) ∧ (∀ s ∈ ys, s.length ≤ 1000000)
def cpyE (fr : Nat) : Option (List (List Int)) → Option (List (List Int)) → Eff
 | some xs, some ys => ⟨cpyP xs ys, .agg [.row fr, .row (fr + 2)], cpyG xs ys fr, True⟩
 | _, _ => bad
def cpyC : Ctr := fun avs _ fr => match avs with
 | [.agg [.sl t xs _, .sl u ys _]] => cpyE fr (castTy t (.sl yI) xs) (castTy u (.sl yI) ys)
 | _ => bad
def con43 : RawT := ⟨cpyC⟩
attribute [local go_sem] rawPost resS oldH newH cpyN
theorem cC7 (xs ys : List (List Int)) (hp : cpyP xs ys) {c : Code} (hc : Tryz.f43.body = some c) (X : Wk) (hT : X.T = tab) (hG : X.G = ⟨[], [], [(3, 11), (22, 11), (41, 11)], [], []⟩) (hk : X.ks = 536871999)
 (hK : X.K = rawPost tab Tryz.f43.results.toList [] (fun _ : Unit => True) (fun _ => [.agg [.row 32, .row 34]]) (fun _ => []) (fun _ => cpyN xs ys)) :
 evk X c [(0, .agg [.sl (.sl yI) xs false, .sl (.sl yI) ys false])] [] 32 [] := by
 cases hc; obtain ⟨⟨hx1, hy1⟩, hx2, hy2⟩ := hp
 (simp -implicitDefEqProofs (maxSteps := 4000000) only [go_sem, bP, con43, hT, hG, hk, hK, Tryz.results43]); (try simp (disch := decide +kernel) only [drawn, true_and, and_true])
 refine cA0 ⟨{ i : Nat // i ≤ xs.length }, 1000, fun i => [(1, .one (.loc 64 0)), (2, .one (.loc 65 0)), (3, .one (.loc 66 0)), (4, .one (.int .i64 i.1))], fun i => [(64, .cells 37 [.sl (.sl yI) xs false, .sl (.sl yI) ys false]), (65, .cells 37 [.undef, .undef]), (66, .cells 37 [.row 67, .row 69]), (67, .rowg 22 (.sl yI) 0 68 (List.replicate i.1 []) none), (68, .fam 3 yI (xs.take i.1)), (69, .rowg 22 (.sl yI) 0 70 [] none), (70, .fam 3 yI [])], fun i => xs.length - i.1⟩ ⟨0, Nat.zero_le _⟩ ?_ ?_
 · simp only [go_sem]; simp only [List.replicate_zero, List.take_zero]
   try first | rfl | (and_intros <;> first | trivial | rfl | omega)
 · rintro ⟨i, (hi : i ≤ xs.length)⟩; have hm1 : (xs.take i).length = i := by rw [List.length_take]; omega
   (simp -implicitDefEqProofs (maxSteps := 4000000) only [go_sem, bP, con43, hT, hG, hk, hK, Tryz.results43]); (try simp (disch := decide +kernel) only [drawn, true_and, and_true])
   refine fun _ => ⟨fun hlt => ?_, fun hge => ?_⟩
   · have hi' : i < xs.length := by omega
     have ek : ∀ z, xs.getD (i : Int).toNat z = xs[i] := fun z => by simp [hi']
     have hk8 := hx2 xs[i] (List.getElem_mem hi'); simp only [ek]
     (repeat' with_reducible first | refine And.intro ?_ ?_ | intro _) <;> try first | with_reducible (first | assumption | omega | contradiction) | decide
     all_goals first
      | omega
      | (rw [List.length_replicate]; omega)
      | (rw [List.nil_append]; omega)
      | (refine dA0 ⟨i + 1, by omega⟩ ?_ (by dsimp only; omega)
         simp only [go_sem]; simp only [tsE hi', List.nil_append, List.replicate_succ']
         try first | rfl | (and_intros <;> first | trivial | rfl | omega)
         done)
   · have : i = xs.length := by omega
     subst this; rw [List.take_length] at *; refine cA0 ⟨{ i : Nat // i ≤ ys.length }, 2000, fun i => [(1, .one (.loc 64 0)), (2, .one (.loc 65 0)), (3, .one (.loc 66 0)), (5, .one (.int .i64 i.1))], fun i => [(64, .cells 37 [.sl (.sl yI) xs false, .sl (.sl yI) ys false]), (65, .cells 37 [.undef, .undef]), (66, .cells 37 [.row 67, .row 69]), (67, .rowg 22 (.sl yI) 0 68 (List.replicate xs.length []) none), (68, .fam 3 yI xs), (69, .rowg 22 (.sl yI) 0 70 (List.replicate i.1 []) none), (70, .fam 3 yI (ys.take i.1))], fun i => ys.length - i.1⟩ ⟨0, Nat.zero_le _⟩ ?_ ?_
     · simp only [go_sem]; simp only [List.replicate_zero, List.take_zero]
       try first | rfl | (and_intros <;> first | trivial | rfl | omega)
     · rintro ⟨i, (hi : i ≤ ys.length)⟩; have hm2 : (ys.take i).length = i := by rw [List.length_take]; omega
       (simp -implicitDefEqProofs (maxSteps := 4000000) only [go_sem, bP, con43, hT, hG, hk, hK, Tryz.results43]); (try simp (disch := decide +kernel) only [drawn, true_and, and_true])
       refine fun _ => ⟨fun hlt => ?_, fun hge => ?_⟩
       · have hi' : i < ys.length := by omega
         have ek : ∀ z, ys.getD (i : Int).toNat z = ys[i] := fun z => by simp [hi']
         have hk8 := hy2 ys[i] (List.getElem_mem hi'); simp only [ek]
         (repeat' with_reducible first | refine And.intro ?_ ?_ | intro _) <;> try first | with_reducible (first | assumption | omega | contradiction) | decide
         all_goals first
          | omega
          | (rw [List.length_replicate]; omega)
          | (rw [List.nil_append]; omega)
          | (refine dA0 ⟨i + 1, by omega⟩ ?_ (by dsimp only; omega)
             simp only [go_sem]; simp only [tsE hi', List.nil_append, List.replicate_succ']
             try first | rfl | (and_intros <;> first | trivial | rfl | omega)
             done)
       · have : i = ys.length := by omega
         subst this; rw [List.take_length] at *; exact ⟨(), rfl, rfl⟩
theorem pC0 {x : Rx} {t u : Ty} {xs : List t.den} {ys : List u.den} {f g : Bool} {v : Value} (h : repA x (.agg [.sl t xs f, .sl u ys g]) v) : repA x (.agg [.sl t xs false, .sl u ys false]) v := by
 unfold repA at h ⊢; obtain ⟨vs, e, h⟩ := h; refine ⟨vs, e, ?_⟩; simp only [repCs, repC] at h ⊢; obtain ⟨v1, r1, e1, ⟨h1, _⟩, v2, r2, e2, ⟨h2, _⟩, e3⟩ := h; exact ⟨v1, r1, e1, ⟨h1, fun q => by cases q⟩, v2, r2, e2, ⟨h2, fun q => by cases q⟩, e3⟩
theorem c43 : CtrOk Tryz.prog 43 con43.ctr := by
 intro D gv hDS cx hcd σ N m w fr avs vs hM hfr hreps hp; show Calls _ _ _ _ _
 change (cpyC avs m fr).pre at hp
 show Calls Tryz.prog 43 vs.toArray w fun e w' => ∃ v, e = .returned v ∧ Res cx σ N m w fr (cpyC avs m fr) v w'; unfold cpyC at hp ⊢; split at hp
 · rename_i t xs f u ys g; unfold castTy at hp ⊢; by_cases ht : t = .sl yI
   · by_cases hu : u = .sl yI
     · subst ht; subst hu; simp only [dif_pos] at hp ⊢
       change cpyP xs ys at hp
       unfold repAs at hreps; obtain ⟨v, r, rfl, k1, k2⟩ := hreps; unfold repAs at k2; subst k2; have k1 := pC0 k1; refine (cB2 eA0 rfl Tryz.func43 rfl 536871999 (G := ⟨[], [], [(3, 11), (22, 11), (41, 11)], [], []⟩) (by kernel_rfl) (by decide) (hcd.1.symm ▸ hcd.2.symm ▸ EnvOk.nil.at_ hDS) hM hfr (by show 1 ≤ Tryz.f43.ntmps; decide) [] List.nodup_nil List.nodup_nil (fun p hp => (by cases hp)) [] (fun p hp => (by cases hp)) (fun p hp => (by cases hp)) [(0, .agg [.sl (.sl yI) xs false, .sl (.sl yI) ys false])] [] (fun i h => absurd rfl h) ?_ (Y := Unit) (fun _ => True) (fun _ => [.agg [.row 32, .row 34]]) (fun _ => []) (fun _ => cpyN xs ys) ?_ ?_).mono ?_
       · intro x1 hw hO hl; refine ⟨fun i id h => (by cases h), fun j w hj => ?_⟩; rw [List.mem_singleton] at hj; cases hj; exact qA7 (OK := fun _ => False) (ρ := id) (keepsw (x := rx cx σ N m w) (y := x1) hw (fun b hb => hO b hb)) (fun k hk => hk.elim) _ _ (fun k hk => by simp [idsA, idsCs, idsC] at hk) k1
       · intro _ _; refine ⟨rfl, rfl, by show [0, 1, 2, 3].Nodup; decide, fun p hp => ?_, by decide, fun b hb => (by cases hb), fun p hp => ?_⟩
         · simp only [cpyN, List.mem_cons, List.not_mem_nil, or_false] at hp
           rcases hp with rfl | rfl | rfl | rfl
           · show (0 : Nat) < 32; decide
           · show (1 : Nat) < 32; decide
           · show (2 : Nat) < 32; decide
           · show (3 : Nat) < 32; decide
         · simp only [cpyN, List.mem_cons, List.not_mem_nil, or_false] at hp
           rcases hp with rfl | rfl | rfl | rfl <;> (intro k hk; simp [idsX, idsB, fidB] at hk <;> subst hk <;> decide)
       · intro X hT hG hk hK; exact cC7 xs ys hp rfl X hT hG hk hK
       · rintro e w' ⟨u, rfl, _, _, hres⟩; have e1 : newU (rnL [] fr) fr (cpyN xs ys) = cpyG xs ys fr := rfl; rw [e1] at hres; exact ⟨u, rfl, hres⟩
     · simp only [dif_pos ht, dif_neg hu] at hp; exact hp.elim
   · simp only [dif_neg ht] at hp; exact hp.elim
 · exact hp.elim
end Go.Proofs.YtabadacjbkhmkaaGreatDoor

set_option maxRecDepth 100000
set_option maxHeartbeats 8000000
namespace Go.Proofs.YtabadacjbkhmkaaGreatDoor
open Go.Ev
attribute [local go_sem] List.set_cons_succ List.set_cons_zero List.getD_cons_succ List.getD_cons_zero List.set_nil
attribute [local go_sem] cpyC cpyE cpyG
def BinB (p : Pl) : Prop := ∀ b ∈ p.2, b.length ≤ 1000000
theorem FitP.cpy {ds : List Dv} {ns : List Nd} (hg : GoodL (ns, ds)) {sl bn : List (List Int)} (h : FitP ns (sl, bn)) (hb : BinB (sl, bn)) : cpyP sl bn := by
 have h24 : ns.length ≤ 24 := hg.n24; have h1 : sl.length = ns.length := h.sl; have h2 : bn.length = ns.length := h.bl; refine ⟨⟨by omega, by omega⟩, fun s hs => ?_, hb⟩; obtain ⟨i, hi, rfl⟩ := List.getElem_of_mem hs; have hi : i < sl.length := hi; have h3 := h.ln i (by omega); have h8 := hg.le8 ns[i] (List.getElem_mem (show i < ns.length by omega)); rw [show (sl, bn).1.getD i [] = sl[i] by simp [hi], show ns.getD i nd0 = ns[i] by simp [show i < ns.length by omega]] at h3; omega
def enterV (p : Pl) (b : Int) : Pl × Int :=
 if (whereV p b).2 = true then (([], []), 5)
 else if (p.1.getD 0 []).getD 0 0 ≠ 0 then (([], []), 8)
 else ((p.1.set 0 ((p.1.getD 0 []).set 0 b), p.2), 0)
def con37 : Con := { ps := [.d true yLY, .d true yP2, .d false yI, .d false yI], rs := [.d true yP2, .d false yI], pre := fun (x : Ly × Pl × Int × Int × Unit) => GoodL x.1 ∧ FitP x.1.1 x.2.1 ∧ BinB x.2.1 ∧ x.2.2.1 = 0 ∧ 1 ≤ x.2.2.2.1 ∧ x.2.2.2.1 ≤ 40, out := fun (x : Ly × Pl × Int × Int × Unit) => ((enterV x.2.1 x.2.2.2.1).1, (enterV x.2.1 x.2.2.2.1).2, ()), nw := id }
theorem c37 : CtrOk Tryz.prog 37 con37.ctr :=
 aA0 (G := ⟨[(55, con55.ctr), (43, con43.ctr)], [], [(62, 10), (65, 11)], [], []⟩) eA0 (EnvOk.cons c55 has55 (EnvOk.cons c43 has43 EnvOk.nil)) rfl Tryz.func37 rfl con37 18049720857402175 (by kernel_rfl) (by decide) (by decide) rfl (by decide) rfl (by
  rintro ⟨⟨(ns : List Nd), (ds : List Dv)⟩, ⟨(sl : List (List Int)), (bn : List (List Int))⟩, (n : Int), (b : Int), _⟩ hpre hwf X hT hG hk hK; obtain ⟨hg, hp, hbb, rfl, h1, h2⟩ : GoodL (ns, ds) ∧ FitP ns (sl, bn) ∧ BinB (sl, bn) ∧ n = 0 ∧ 1 ≤ b ∧ b ≤ 40 := hpre; have hcp := hp.cpy hg hbb
  (simp -implicitDefEqProofs (maxSteps := 4000000) only [go_sem, bP, con37, con55, con43, hT, hG, hk, hK, Tryz.results37] at hwf ⊢)
  clear hwf; have hn1 : 1 ≤ ns.length := hg.n1; have hsl : sl.length = ns.length := hp.sl; have hen := hg.en; have hln := hp.ln 0 (by omega); have hnd := hg.nd 0 (by dsimp only; omega); have hl1 := hnd.ln; dsimp only at hen hln hl1; rw [hen] at hl1; have hl1 := hl1 rfl; have en0 : ∀ z, ns.getD 0 z = ns.getD 0 nd0 := fun z => by simp [show 0 < ns.length by omega]
  have h5 : (whereV (sl, bn) b).2 = true → enterV (sl, bn) b = (([], []), 5) := fun h => by unfold enterV; rw [if_pos h]
  have h8 : (whereV (sl, bn) b).2 = false → ¬ (sl.getD 0 []).getD 0 0 = 0 → enterV (sl, bn) b = (([], []), 8) := fun h q => by unfold enterV; rw [if_neg (by rw [h]; decide), if_pos q]
  have h0 : (whereV (sl, bn) b).2 = false → (sl.getD 0 []).getD 0 0 = 0 → enterV (sl, bn) b = ((sl.set 0 ((sl.getD 0 []).set 0 b), bn), 0) := fun h q => by unfold enterV; rw [if_neg (by rw [h]; decide), if_neg (fun e => e q)]
  rw [en0] at *
  (repeat' with_reducible first | refine And.intro ?_ ?_ | intro _) <;> try first | with_reducible (first | assumption | omega | contradiction) | decide
  all_goals first
   | omega
   | exact hcp
   | (rw [List.length_replicate]; omega)
   | (rw [h5 (by assumption)]; done)
   | (rw [h8 (by assumption) (by assumption)]; done)
   | (rw [h0 (by assumption) (by assumption)]; done)
   | (rw [h0 (by assumption) (by assumption)]; exact hA6 bn)
   | (rw [h0 (by assumption) (by assumption)]; exact bA3 (by rw [List.length_set])))
def con112 : Con := { ps := [.d true yP2, .d true yP2], rs := [.d false .bool], pre := fun _ => True, out := fun (x : Pl × Pl × Unit) => (decide (x.1 = x.2.1), ()), nw := id }
theorem c112 : CtrOk Tryz.prog 112 con112.ctr :=
 aA0 eA0 (eC c13 has13 eN) rfl Tryz.func112 rfl con112 1152994072512692351 (by kernel_rfl) (by decide) (by decide) rfl (by decide) rfl (by
  rintro ⟨⟨(a : List (List Int)), (b : List (List Int))⟩, ⟨(c : List (List Int)), (d : List (List Int))⟩, _⟩ hpre hwf X hT hG hk hK
  (simp -implicitDefEqProofs (maxSteps := 4000000) only [go_sem, bP, con112, con13, hT, hG, hk, hK, Tryz.results112] at hwf ⊢); (try simp (disch := decide +kernel) only [drawn, true_and, and_true])
  clear hwf; have hne : ¬ (a.length = c.length ∧ b.length = d.length) → decide ((a, b) = (c, d)) = false := fun h => decide_eq_false fun e => h (by cases e; exact ⟨rfl, rfl⟩)
  (repeat' with_reducible first | refine And.intro ?_ ?_ | intro _) <;> try first | with_reducible (first | assumption | omega | contradiction) | decide
  all_goals first
   | omega
   | (rw [hne (by omega)]; done)
   | skip
  have hL : a.length = c.length ∧ b.length = d.length := by omega
  have hM : ∀ i, i < a.length → a.getD i [] ≠ c.getD i [] → decide ((a, b) = (c, d)) = false := fun i _ h => decide_eq_false fun e => h (by cases e; rfl); have hN : ∀ i, i < b.length → b.getD i [] ≠ d.getD i [] → decide ((a, b) = (c, d)) = false := fun i _ h => decide_eq_false fun e => h (by cases e; rfl); refine cA0 ⟨{ i : Nat // i ≤ a.length ∧ ∀ k, k < i → a.getD k [] = c.getD k [] }, 1000, fun i => [(2, .one (.loc 64 0)), (3, .one (.loc 65 0)), (5, .one (.int .i64 i.1))], fun i => [(64, .cells 37 [.sl (.sl yI) a false, .sl (.sl yI) b false]), (65, .cells 37 [.sl (.sl yI) c false, .sl (.sl yI) d false])], fun i => a.length - i.1⟩ ⟨0, Nat.zero_le _, fun k hk => by omega⟩ ?_ ?_
  · simp only [go_sem]; rfl
  · rintro ⟨i, (hi : i ≤ a.length), (hz : ∀ k, k < i → a.getD k [] = c.getD k [])⟩
    (simp -implicitDefEqProofs (maxSteps := 4000000) only [go_sem, bP, con112, con13, hT, hG, hk, hK, Tryz.results112]); (try simp (disch := decide +kernel) only [drawn, true_and, and_true])
    refine fun _ => ⟨fun hlt => ?_, fun hge => ?_⟩
    · have ekk : (i : Int).toNat = i := Int.toNat_natCast i; simp only [ekk]
      (repeat' with_reducible first | refine And.intro ?_ ?_ | intro _) <;> try first | with_reducible (first | assumption | omega | contradiction) | decide
      all_goals first
       | omega
       | (rw [hM i (by omega) (by assumption)]; done)
       | (have h : a.getD i [] = c.getD i [] := by assumption
          refine dA0 ⟨i + 1, by omega, fun k hk => ?_⟩ ?_ (by dsimp only; omega)
          · by_cases e : k = i
            · subst e; exact h
            · exact hz k (by omega)
          · simp only [go_sem]
            try rfl
          done)
    · have hac : a = c := by
       refine List.ext_getElem hL.1 fun k h1 h2 => ?_; have := hz k (by omega); simpa [h1, h2] using this
      refine cA0 ⟨{ i : Nat // i ≤ b.length ∧ ∀ k, k < i → b.getD k [] = d.getD k [] }, 2000, fun i => [(2, .one (.loc 64 0)), (3, .one (.loc 65 0)), (6, .one (.int .i64 i.1))], fun i => [(64, .cells 37 [.sl (.sl yI) a false, .sl (.sl yI) b false]), (65, .cells 37 [.sl (.sl yI) c false, .sl (.sl yI) d false])], fun i => b.length - i.1⟩ ⟨0, Nat.zero_le _, fun k hk => by omega⟩ ?_ ?_
      · simp only [go_sem]; rfl
      · rintro ⟨i, (hi : i ≤ b.length), (hz2 : ∀ k, k < i → b.getD k [] = d.getD k [])⟩
        (simp -implicitDefEqProofs (maxSteps := 4000000) only [go_sem, bP, con112, con13, hT, hG, hk, hK, Tryz.results112]); (try simp (disch := decide +kernel) only [drawn, true_and, and_true])
        refine fun _ => ⟨fun hlt => ?_, fun hge => ?_⟩
        · have ekk : (i : Int).toNat = i := Int.toNat_natCast i; simp only [ekk]
          (repeat' with_reducible first | refine And.intro ?_ ?_ | intro _) <;> try first | with_reducible (first | assumption | omega | contradiction) | decide
          all_goals first
           | omega
           | (rw [hN i (by omega) (by assumption)]; done)
           | (have h : b.getD i [] = d.getD i [] := by assumption
              refine dA0 ⟨i + 1, by omega, fun k hk => ?_⟩ ?_ (by dsimp only; omega)
              · by_cases e : k = i
                · subst e; exact h
                · exact hz2 k (by omega)
              · simp only [go_sem]
                try rfl
              done)
        · have hbd : b = d := by
           refine List.ext_getElem hL.2 fun k h1 h2 => ?_; have := hz2 k (by omega); simpa [h1, h2] using this
          rw [hac, hbd]; exact (decide_eq_true rfl).symm)
def con88 : Con := { ps := [.d true yP2, .d true yP2], rs := [.d false .bool], pre := fun _ => True, out := fun (x : Pl × Pl × Unit) => (decide (x.1 = x.2.1), ()), nw := id }
theorem c88 : CtrOk Tryz.prog 88 con88.ctr :=
 aA0 eA0 (eC c112 has112 eN) rfl Tryz.func88 rfl con88 31 (by kernel_rfl) (by decide) (by decide) rfl (by decide) rfl (by
  rintro ⟨⟨(a : List (List Int)), (b : List (List Int))⟩, ⟨(c : List (List Int)), (d : List (List Int))⟩, _⟩ hpre hwf X hT hG hk hK
  (simp -implicitDefEqProofs (maxSteps := 4000000) only [go_sem, bP, con88, con112, hT, hG, hk, hK, Tryz.results88] at hwf ⊢))
end Go.Proofs.YtabadacjbkhmkaaGreatDoor
