/- Part. -/
import Derived.Test.YtabadacjbkhmkaaGreatDoorEvBase
import Derived.RangeFuncFrom
set_option linter.all false
namespace Go.Ev
theorem oA0 (b o j : Nat) : (⟨b, o, none⟩ : Addr).add j = ⟨b, o + j, none⟩ := by
 unfold Addr.add; split <;> simp_all
/-! ### plain data in memory that nobody writes -/
def roAll {α : Type} (r : α → List Value → Prop) : List α → List Value → Prop
 | [], vs => vs = []
 | x :: xs, vs => ∃ c d, vs = c ++ d ∧ r x c ∧ roAll r xs d
def CellsAt (w : World) (O : Nat → Prop) (b o : Nat) (vs : List Value) : Prop :=
 ∀ j u, vs[j]? = some u → ¬ O b ∧ w.cell? ⟨b, o + j, none⟩ = some u
def ro (w : World) (O : Nat → Prop) : (t : Ty) → t.den → List Value → Prop
 | .int k, n, vs => vs = [.int k n] ∧ InR k n
 | .bool, b, vs => vs = [.bool b]
 | .str, s, vs => vs = [.string s] ∧ s.size ≤ maxLen
 | .unit, _, vs => vs = []
 | .sl t, xs, vs => ∃ a len cap, vs = [.slice a len cap] ∧ len = xs.length ∧ len ≤ cap ∧ cap ≤ maxLen ∧
    (cap = 0 ∨ ∃ b o flat, a = some ⟨b, o, none⟩ ∧ roAll (ro w O t) xs flat ∧ CellsAt w O b o flat)
 | .pair a b, p, vs => ∃ c d, vs = c ++ d ∧ ro w O a p.1 c ∧ ro w O b p.2 d
structure Keep (w w' : World) (O O' : Nat → Prop) : Prop where
 blk : ∀ b, b < w.heap.size → ¬ O b → ¬ O' b ∧ ∀ o : Obj, w.heap[b]? = some o → o.isCells = true → w'.heap[b]? = some o
theorem Keep.ex {w w' : World} {O O' : Nat → Prop} (h : ∀ b, b < w.heap.size → ¬ O b → ¬ O' b ∧ w'.heap[b]? = w.heap[b]?) : Keep w w' O O' :=
 ⟨fun b hb ho => ⟨(h b hb ho).1, fun _ e _ => (h b hb ho).2.trans e⟩⟩
theorem Keep.refl (w : World) (O : Nat → Prop) : Keep w w O O := .ex fun _ _ h => ⟨h, rfl⟩
theorem Keep.trans {a b c : World} {O O' O'' : Nat → Prop} (h : Keep a b O O') (k : Keep b c O' O'') (hs : a.heap.size ≤ b.heap.size) : Keep a c O O'' :=
 ⟨fun x hx ho => by
   obtain ⟨h1, h2⟩ := h.blk x hx ho; obtain ⟨k1, k2⟩ := k.blk x (by omega) h1; exact ⟨k1, fun o e c => k2 o (h2 o e c) c⟩⟩
theorem CellsAt.keep {w w' : World} {O O' : Nat → Prop} (hk : Keep w w' O O') {b o : Nat} {vs : List Value} (h : CellsAt w O b o vs) : CellsAt w' O' b o vs := by
 intro j u hu; obtain ⟨h1, h2⟩ := h j u hu; have hb : b < w.heap.size := block_lt_of_cell h2; obtain ⟨k1, k2⟩ := hk.blk b hb h1; obtain ⟨q, hq, hc⟩ := cells_of_cell h2; exact ⟨k1, (World.cell?_of_block (a := ⟨b, o + j, none⟩) ((k2 q hq hc).trans hq.symm)).trans h2⟩
theorem fA0 {α : Type} {r r' : α → List Value → Prop} (h : ∀ x c, r x c → r' x c) : ∀ (xs : List α) (vs : List Value), roAll r xs vs → roAll r' xs vs
 | [], _, hv => hv
 | _ :: xs, _, ⟨c, d, e, hx, hr⟩ => ⟨c, d, e, h _ _ hx, fA0 h xs d hr⟩
theorem hA0 {w w' : World} {O O' : Nat → Prop} (hk : Keep w w' O O') : ∀ (t : Ty) (x : t.den) (vs : List Value), ro w O t x vs → ro w' O' t x vs
 | .int _, _, _, h => h
 | .bool, _, _, h => h
 | .str, _, _, h => h
 | .unit, _, _, h => h
 | .sl t, _, _, ⟨a, len, cap, h1, h2, h3, h4, h5⟩ => ⟨a, len, cap, h1, h2, h3, h4, h5.imp id fun ⟨b, o, flat, e, hr, hc⟩ => ⟨b, o, flat, e, fA0 (hA0 hk t) _ _ hr, hc.keep hk⟩⟩
 | .pair a b, p, _, ⟨c, d, e, h1, h2⟩ => ⟨c, d, e, hA0 hk a p.1 c h1, hA0 hk b p.2 d h2⟩
theorem qA0 {w : World} {O : Nat → Prop} : ∀ (t : Ty) (x : t.den) (vs : List Value), ro w O t x vs → vs.length = t.n
 | .int _, _, _, h => by simp [h.1, Ty.n]
 | .bool, _, _, h => by rw [show _ = _ from h]; simp [Ty.n]
 | .str, _, _, h => by simp [h.1, Ty.n]
 | .unit, _, _, h => by rw [show _ = _ from h]; simp [Ty.n]
 | .sl _, _, _, ⟨_, _, _, h, _⟩ => by simp [h, Ty.n]
 | .pair a b, p, _, ⟨c, d, e, h1, h2⟩ => by rw [e, List.length_append, qA0 a p.1 c h1, qA0 b p.2 d h2]; rfl
theorem pB2 {w : World} {O : Nat → Prop} : ∀ (t : Ty) (x : t.den) (vs : List Value), ro w O t x vs → ∀ u ∈ vs, u.oneCell' = true
 | .int _, _, _, h, u, hu => by simp [h.1] at hu; subst hu; rfl
 | .bool, _, _, h, u, hu => by rw [show _ = _ from h] at hu; simp at hu; subst hu; rfl
 | .str, _, _, h, u, hu => by simp [h.1] at hu; subst hu; rfl
 | .unit, _, _, h, u, hu => by rw [show _ = _ from h] at hu; simp at hu
 | .sl _, _, _, ⟨_, _, _, h, _⟩, u, hu => by simp [h] at hu; subst hu; rfl
 | .pair a b, p, _, ⟨c, d, e, h1, h2⟩, u, hu => by
   rw [e, List.mem_append] at hu; exact hu.elim (pB2 a p.1 c h1 u) (pB2 b p.2 d h2 u)
theorem nA0 {α : Type} {r : α → List Value → Prop} {n : Nat} (hn : ∀ x c, r x c → c.length = n) : ∀ (xs : List α) (vs : List Value), roAll r xs vs → vs.length = xs.length * n
 | [], _, h => by rw [show _ = _ from h]; simp
 | x :: xs, _, ⟨c, d, e, h, hr⟩ => by rw [e, List.length_append, hn x c h, nA0 hn xs d hr, List.length_cons, Nat.add_mul]; omega
theorem nA1 {α : Type} {r : α → List Value → Prop} : ∀ (xs ys : List α) (vs us : List Value), roAll r xs vs → roAll r ys us → roAll r (xs ++ ys) (vs ++ us)
 | [], _, _, _, h, k => by rw [show _ = _ from h]; exact k
 | _ :: xs, ys, _, us, ⟨c, d, e, h, hr⟩, k => ⟨c, d ++ us, by rw [e, List.append_assoc], h, nA1 xs ys d us hr k⟩
theorem dA2 {α : Type} {r : α → List Value → Prop} : ∀ (xs ys : List α) (vs : List Value), roAll r (xs ++ ys) vs → ∃ a b, vs = a ++ b ∧ roAll r xs a ∧ roAll r ys b
 | [], _, vs, h => ⟨[], vs, rfl, rfl, h⟩
 | _ :: xs, ys, _, ⟨c, d, e, h, hr⟩ => by
   obtain ⟨a, b, e', ha, hb⟩ := dA2 xs ys d hr; exact ⟨c ++ a, b, by rw [e, e', List.append_assoc], ⟨c, a, rfl, h, ha⟩, hb⟩
theorem sA5 {α : Type} {r : α → List Value → Prop} : ∀ (xs : List α) (vs : List Value), roAll r xs vs → (∀ x c, r x c → ∀ u ∈ c, u.oneCell' = true) → ∀ u ∈ vs, u.oneCell' = true
 | [], _, h, _, u, hu => by rw [show _ = _ from h] at hu; simp at hu
 | x :: xs, _, ⟨c, d, e, h, hr⟩, k, u, hu => by
   rw [e, List.mem_append] at hu; exact hu.elim (k x c h u) (sA5 xs d hr k u)
theorem sA2 {α : Type} {r : α → List Value → Prop} {n : Nat} (hn : ∀ x c, r x c → c.length = n) {xs : List α} {vs : List Value} (h : roAll r xs vs) {i : Nat} (hi : i < xs.length) :
 ∃ pre c post, vs = pre ++ (c ++ post) ∧ pre.length = i * n ∧ r xs[i] c ∧ roAll r (xs.take i) pre ∧ roAll r (xs.drop (i + 1)) post := by
 have e : xs = xs.take i ++ (xs[i] :: xs.drop (i + 1)) := by rw [List.getElem_cons_drop hi, List.take_append_drop]
 obtain ⟨pre, rest, hv, hp, hr⟩ := dA2 _ _ vs (e ▸ h); obtain ⟨c, post, hr', hc, hpost⟩ := hr; refine ⟨pre, c, post, by rw [hv, hr'], ?_, hc, hp, hpost⟩; rw [nA0 hn _ _ hp, List.length_take, Nat.min_eq_left (Nat.le_of_lt hi)]
theorem iA5 {α : Type} {r : α → List Value → Prop} : ∀ (xs : List α) (vs : List Value), roAll r xs vs → ∀ x ∈ xs, ∃ c, r x c
 | _ :: xs, _, ⟨c, d, _, h, hr⟩, x, hx => by
   cases List.mem_cons.1 hx with
   | inl e => exact ⟨c, e ▸ h⟩
   | inr e => exact iA5 xs d hr x e
theorem wA5 {w : World} {O : Nat → Prop} : ∀ (t : Ty) (x : t.den) (vs : List Value), ro w O t x vs → Wf t x
 | .int _, _, _, h => h.2
 | .bool, _, _, _ => trivial
 | .str, _, _, h => h.2
 | .unit, _, _, _ => trivial
 | .sl t, xs, _, ⟨a, len, cap, _, h2, h3, h4, h5⟩ => by
   refine ⟨by show List.length xs ≤ _; omega, fun x hx => ?_⟩
   rcases h5 with hc | ⟨b, o, flat, _, hr, _⟩
   · have : xs.length = 0 := by omega
     rw [List.eq_nil_of_length_eq_zero this] at hx; cases hx
   · obtain ⟨c, hc⟩ := iA5 _ _ hr x hx
     exact wA5 t x c hc
 | .pair a b, p, _, ⟨c, d, _, h1, h2⟩ => ⟨wA5 a p.1 c h1, wA5 b p.2 d h2⟩
/-! ### cells, values, blocks -/
def blkOf : Value → Option Nat
 | .pointer (some a) => some a.block
 | .slice (some a) _ (_ + 1) => some a.block
 | .map (some r) => some r
 | _ => none
def hb (v : Value) (b : Nat) : Prop := blkOf v = some b ∨ ∃ f vs, v = .func f #[] vs ∧ ∃ u ∈ vs.toList, blkOf u = some b
theorem hb_slice {a : Option Addr} {n c b : Nat} : hb (.slice a n c) b ↔ blkOf (.slice a n c) = some b :=
 ⟨fun h => h.elim id (fun ⟨_, _, e, _⟩ => by cases e), .inl⟩
theorem hb_ptr {a : Option Addr} {b : Nat} : hb (.pointer a) b ↔ blkOf (.pointer a) = some b :=
 ⟨fun h => h.elim id (fun ⟨_, _, e, _⟩ => by cases e), .inl⟩
theorem hb_map {r : Option Nat} {b : Nat} : hb (.map r) b ↔ blkOf (.map r) = some b :=
 ⟨fun h => h.elim id (fun ⟨_, _, e, _⟩ => by cases e), .inl⟩
theorem hb_fam {f : Fn} {vs : Array Value} {b : Nat} : hb (.func f #[] vs) b ↔ ∃ u ∈ vs.toList, blkOf u = some b :=
 ⟨fun h => h.elim (fun h => by cases h) (fun ⟨_, _, e, h⟩ => by cases e; exact h), fun h => .inr ⟨f, vs, rfl, h⟩⟩
def own : Blk → Bool
 | .cells .. | .row .. | .mapb .. | .fam .. | .mapg .. | .rowg .. => true
 | _ => false
structure Cx where
 w0 : World
 F : Nat → Prop
 Mu : Nat → Prop
 np : Nat
 arg : Nat → Value
 mks : List Nat
 tm : Nat → Option Value
 D : Prop
 gv : GVs
def Owned (cx : Cx) (σ : Nat → Value) (m : Mem) (b : Nat) : Prop := cx.F b ∨ ∃ id, own (m id) = true ∧ hb (σ id) b
structure Rx where
 w : World
 O : Nat → Prop
 σ : Nat → Value
 N : Nat → Prop
mutual
def repC (x : Rx) : C1 → Value → Prop
 | .undef, _ => True
 | .nilsl, v => v = .slice none 0 0
 | .nilp, v => v = .pointer none
 | .nilfn, v => v = .nilFunc
 | .int k n, v => v = .int k n ∧ InR k n
 | .bool b, v => v = .bool b
 | .str s, v => v = .string s ∧ s.size ≤ maxLen
 | .sl t xs cp, v => ro x.w x.O (.sl t) xs [v] ∧ (cp = true → ∃ a n, v = .slice a n n)
 | .row id, v => ¬ x.N id ∧ v = x.σ id
 | .win id sz lo len, v => ¬ x.N id ∧ ∃ a n c a', x.σ id = .slice a n c ∧ lo + len ≤ n ∧ n ≤ c ∧ v = .slice a' len (c - lo) ∧ (lo < c → ∃ b, a = some ⟨b, 0, none⟩ ∧ a' = some ⟨b, lo * sz, none⟩)
 | .loc id off, v => ¬ x.N id ∧ ∃ b, x.σ id = .pointer (some ⟨b, 0, none⟩) ∧ v = .pointer (some ⟨b, off, none⟩)
 | .rp t y off, v => ∃ b o vs, v = .pointer (some ⟨b, o + off, none⟩) ∧ ro x.w x.O t y vs ∧ CellsAt x.w x.O b o vs
 | .sp cs off, v => ∃ b vs, v = .pointer (some ⟨b, off, none⟩) ∧ repCs x cs vs ∧ CellsAt x.w x.O b 0 vs
 | .ep id sz i off, v => ¬ x.N id ∧ ∃ b n c, x.σ id = .slice (some ⟨b, 0, none⟩) n c ∧ v = .pointer (some ⟨b, i.toNat * sz + off, none⟩)
 | .map id, v => ¬ x.N id ∧ v = x.σ id
 | .fn f caps, v => ∃ vs, v = .func (.func f) #[] vs.toArray ∧ repCs x caps vs
 | .cs id n, v => ¬ x.N id ∧ n ≤ 32 ∧ 0 < n ∧ ∃ b, x.σ id = .pointer (some ⟨b, 0, none⟩) ∧ v = .slice (some ⟨b, 0, none⟩) n n
 | .pk cs, v => ∃ vs, v = .agg vs.toArray ∧ repCs x cs vs
 | .mv f caps, v => ∃ vs, v = .func (.func f) vs.toArray #[] ∧ repCs x caps vs
 | .glob g, v => v = .pointer (some ⟨g, 0, none⟩)
 | .nst fid i, v => ¬ x.N fid ∧ ∃ f vs, x.σ fid = .func f #[] vs ∧ vs.toList[i]? = some v
 | .nep fid i sz k off, v => ¬ x.N fid ∧ ∃ f vs b n c, x.σ fid = .func f #[] vs ∧ vs.toList[i]? = some (.slice (some ⟨b, 0, none⟩) n c) ∧ v = .pointer (some ⟨b, k.toNat * sz + off, none⟩)
def repCs (x : Rx) : List C1 → List Value → Prop
 | [], vs => vs = []
 | c :: cs, vs => ∃ v r, vs = v :: r ∧ repC x c v ∧ repCs x cs r
end
mutual
def repA (x : Rx) : AV → Value → Prop
 | .one c, v => repC x c v
 | .agg cs, v => ∃ vs, v = .agg vs.toArray ∧ repCs x cs vs
 | .tup a9s, v => ∃ vs, v = .tuple vs.toArray ∧ repAs x a9s vs
 | .ifd c a, v => (c = true → repA x a v) ∧ (c = false → v = undef)
def repAs (x : Rx) : List AV → List Value → Prop
 | [], vs => vs = []
 | a :: a9s, vs => ∃ v r, vs = v :: r ∧ repA x a v ∧ repAs x a9s r
end
def oneAll (vs : List Value) : Prop := ∀ u ∈ vs, u.oneCell' = true
def mkV (ag : Bool) (vs : List Value) : Value := if ag then .agg vs.toArray else vs.getD 0 undef
def mapRep (x : Rx) (kt vt : Ty) (ka va : Bool) : List (kt.den × vt.den) → List MapEntry → Prop
 | [], es => es = []
 | p :: l, es => ∃ e r ks vs, es = e :: r ∧ e.key = mkV ka ks ∧ ro x.w x.O kt p.1 ks ∧ e.val = mkV va vs ∧ ro x.w x.O vt p.2 vs ∧ mapRep x kt vt ka va l r
def stq : Ty → Ty → Bool
 | _, .sl _ => false
 | .str, _ => true
 | _, _ => false
def cnq : Ty → Bool
 | .int _ => true
 | _ => false
def Stp (kt vt : Ty) (es : List MapEntry) (cl : Nat) : Prop := (stq kt vt = true → (∀ x ∈ es, x.born < cl) ∧ (es.map (·.born)).Nodup ∧ (es.map (·.key)).Nodup) ∧ (cnq vt = true → cl = es.length ∧ ∀ (i : Nat) e, es[i]? = some e → e.born = i)
theorem Stp.nil (kt vt : Ty) : Stp kt vt [] 0 := ⟨fun _ => ⟨fun _ h => by (cases h), List.nodup_nil, List.nodup_nil⟩, fun _ => ⟨rfl, fun i e h => by simp at h⟩⟩
theorem Stp.mid {kt vt : Ty} {pre post : List MapEntry} {e e' : MapEntry} {cl : Nat} (h : Stp kt vt (pre ++ e :: post) cl) (h1 : e'.born = e.born) (h2 : e'.key = e.key) : Stp kt vt (pre ++ e' :: post) cl := by
 refine ⟨fun q => ?_, fun q => ?_⟩
 · obtain ⟨a, b, c⟩ := h.1 q; refine ⟨fun x hx => ?_, ?_, ?_⟩
   · rcases List.mem_append.1 hx with hx | hx
     · exact a x (List.mem_append_left _ hx)
     · rcases List.mem_cons.1 hx with rfl | hx
       · rw [h1]; exact a e (List.mem_append_right _ List.mem_cons_self)
       · exact a x (List.mem_append_right _ (List.mem_cons_of_mem _ hx))
   · simpa [h1] using b
   · simpa [h2] using c
 · obtain ⟨a, b⟩ := h.2 q; refine ⟨by simpa using a, fun i x hx => ?_⟩; by_cases hi : i < pre.length
   · rw [List.getElem?_append_left hi] at hx; exact b i x (by rw [List.getElem?_append_left hi]; exact hx)
   · rw [List.getElem?_append_right (by omega)] at hx; by_cases h0 : i - pre.length = 0
     · rw [h0] at hx; have hx : e' = x := by simpa using hx
       rw [← hx, h1]; exact b i e (by rw [List.getElem?_append_right (by omega), h0]; rfl)
     · obtain ⟨k, hk⟩ : ∃ k, i - pre.length = k + 1 := ⟨i - pre.length - 1, by omega⟩; rw [hk] at hx; exact b i x (by rw [List.getElem?_append_right (by omega), hk]; exact hx)
theorem Stp.push {kt vt : Ty} {es : List MapEntry} {e : MapEntry} {cl : Nat} (h : Stp kt vt es cl) (h1 : e.born = cl) (h2 : stq kt vt = true → ∀ x ∈ es, x.key ≠ e.key) : Stp kt vt (es ++ [e]) (cl + 1) := by
 refine ⟨fun q => ?_, fun q => ?_⟩
 · obtain ⟨a, b, c⟩ := h.1 q; refine ⟨fun x hx => ?_, ?_, ?_⟩
   · rcases List.mem_append.1 hx with hx | hx
     · have := a x hx; omega
     · rw [List.mem_singleton.1 hx, h1]; omega
   · rw [List.map_append, List.nodup_append]; refine ⟨b, by simp, fun x hx y hy => ?_⟩; obtain ⟨z, hz, rfl⟩ := List.mem_map.1 hx; have := a z hz; have : y = e.born := by simpa using hy
     omega
   · rw [List.map_append, List.nodup_append]; refine ⟨c, by simp, fun x hx y hy => ?_⟩; obtain ⟨z, hz, rfl⟩ := List.mem_map.1 hx; have : y = e.key := by simpa using hy
     rw [this]; exact h2 q z hz
 · obtain ⟨a, b⟩ := h.2 q; refine ⟨by simp [a], fun i x hx => ?_⟩; by_cases hi : i < es.length
   · rw [List.getElem?_append_left hi] at hx; exact b i x hx
   · rw [List.getElem?_append_right (by omega)] at hx; by_cases h0 : i - es.length = 0
     · rw [h0] at hx; have hx : e = x := by simpa using hx
       rw [← hx, h1, a]; omega
     · obtain ⟨k, hk⟩ : ∃ k, i - es.length = k + 1 := ⟨i - es.length - 1, by omega⟩; rw [hk] at hx; simp at hx
def RowR (w : World) (e : TypeId) (size : Nat) (v : Value) (n : Nat) (xs : List Value) : Prop :=
 xs.length = n * size ∧
 ((n = 0 ∧ ∃ a, v = .slice a 0 0) ∨
  ∃ g cap cur, 0 < cap ∧ v = .slice (some ⟨g, 0, none⟩) n cap ∧ w.heap[g]? = some (.cells cur e (0, 0)) ∧ n ≤ cap ∧ cap ≤ maxLen ∧ cur.size = cap * size ∧ cur.toList.take (n * size) = xs)
theorem oA2 (w : World) (e : TypeId) (size : Nat) (a : Option Addr) : RowR w e size (.slice a 0 0) 0 [] := ⟨by simp, .inl ⟨rfl, a, rfl⟩⟩
theorem bA4 {w : World} {e : TypeId} {size : Nat} {g n cap : Nat} {cur : Array Value} {xs : List Value} (hl : xs.length = n * size) (hg : w.heap[g]? = some (.cells cur e (0, 0))) (h1 : n ≤ cap) (h2 : cap ≤ maxLen) (h3 : cur.size = cap * size)
 (h4 : cur.toList.take (n * size) = xs) : RowR w e size (.slice (some ⟨g, 0, none⟩) n cap) n xs := by
 refine ⟨hl, ?_⟩; by_cases hc : cap = 0
 · subst hc; have : n = 0 := by omega
   subst this; exact .inl ⟨rfl, _, rfl⟩
 · exact .inr ⟨g, cap, cur, by omega, rfl, hg, h1, h2, h3, h4⟩
theorem gA0 {a : Addr} {n cap : Nat} (h : 0 < cap) : blkOf (.slice (some a) n cap) = some a.block := by
 cases cap with
 | zero => omega
 | succ c => rfl
theorem cA1 {a : Option Addr} {n : Nat} : blkOf (.slice a n 0) = none := by cases a <;> rfl
theorem hA1 {w : World} {e : TypeId} {size : Nat} {v : Value} {n : Nat} {xs : List Value} (h : RowR w e size v n xs) {g : Nat} (hg : blkOf v = some g) : ∀ j u, xs[j]? = some u → w.cell? ⟨g, j, none⟩ = some u := by
 intro j u hu
 rcases h.2 with ⟨_, a, rfl⟩ | ⟨g', cap, cur, hc, rfl, hb, h1, h2, h3, h4⟩
 · rw [cA1] at hg; cases hg
 · rw [gA0 hc] at hg; simp only [Option.some.injEq] at hg; subst hg; rw [← h4] at hu; have hj := (List.getElem?_eq_some_iff.1 hu).1; rw [List.getElem?_take_of_lt (by simp at hj; omega)] at hu; simp only [World.cell?, hb]; simpa using hu
structure famRep (x : Rx) (e : TypeId) (t : Ty) (xss : List (List t.den)) (vs : List Value) : Prop where
 len : vs.length = xss.length
 row : ∀ (i : Nat) xs v, xss[i]? = some xs → vs[i]? = some v → v.oneCell' = true ∧ ∃ flat, RowR x.w e t.n v xs.length flat ∧ roAll (ro x.w x.O t) xs flat
 inj : ∀ (i j : Nat) u v b, vs[i]? = some u → vs[j]? = some v → blkOf u = some b → blkOf v = some b → i = j
structure mapgRep (x : Rx) (kt : Ty) (ka : Bool) (hole : Option Nat) (ks : List kt.den) (es : List MapEntry) (vs : List Value) : Prop where
 len : es.length = ks.length
 lenv : vs.length = ks.length
 at_ : ∀ (i : Nat) k en v, ks[i]? = some k → es[i]? = some en → vs[i]? = some v → en.born = i ∧ (hole ≠ some i → en.val = v) ∧ ∃ kvs, en.key = mkV ka kvs ∧ ro x.w x.O kt k kvs
def elG (x : Rx) (t : Ty) (p : Nat) (q : t.den × Option Value) (c : List Value) : Prop :=
 p < c.length ∧ (∀ v, q.2 = some v → c[p]? = some v) ∧ (∀ u ∈ c, u.oneCell' = true) ∧ ro x.w x.O t q.1 (c.set p (.slice none 0 0))
def holed (vs : List Value) : Option Nat → List (Option Value)
 | none => vs.map some
 | some i => (vs.map some).set i none
def repB (x : Rx) (id : Nat) : Blk → Prop
 | .fam e t xss => ∃ f vs, x.σ id = .func f #[] vs ∧ famRep x e t xss vs.toList
 | .mapg kt ka fid ks hole => ∃ r es f vs, x.σ id = .map (some r) ∧ x.w.heap[r]? = some (.map es ks.length) ∧ ¬ x.N fid ∧ x.σ fid = .func f #[] vs ∧ mapgRep x kt ka hole ks es.toList vs.toList
 | .rowg e t p fid xs hole => ∃ f vs flat, ¬ x.N fid ∧ x.σ fid = .func f #[] vs ∧ vs.toList.length = xs.length ∧ RowR x.w e t.n (x.σ id) xs.length flat ∧ roAll (elG x t p) (xs.zip (holed vs.toList hole)) flat
 | .lenb n => ∃ a c, x.σ id = .slice a n c ∧ n ≤ c ∧ c ≤ maxLen ∧ (a = none → n = 0)
 | .dead => True
 | .cells e cs => ∃ b vs, x.σ id = .pointer (some ⟨b, 0, none⟩) ∧ x.w.heap[b]? = some (.cells vs.toArray e (0, 0)) ∧ repCs x cs vs ∧ oneAll vs
 | .row e t xs => ∃ n flat, n = xs.length ∧ RowR x.w e t.n (x.σ id) n flat ∧ roAll (ro x.w x.O t) xs flat
 | .settled t xs => ro x.w x.O (.sl t) xs [x.σ id]
 | .scell cs => ∃ b vs, x.σ id = .pointer (some ⟨b, 0, none⟩) ∧ repCs x cs vs ∧ CellsAt x.w x.O b 0 vs
 | .mapb kt vt ka va l => ∃ r es clock, x.σ id = .map (some r) ∧ x.w.heap[r]? = some (.map es clock) ∧ mapRep x kt vt ka va l es.toList ∧ Stp kt vt es.toList clock
structure Rx.Keeps (x y : Rx) : Prop where
 k : Keep x.w y.w x.O y.O
 σ : ∀ id, ¬ x.N id → y.σ id = x.σ id
 N : ∀ id, y.N id → x.N id
mutual
theorem rA7 {x y : Rx} (h : x.Keeps y) : ∀ (c : C1) (v : Value), repC x c v → repC y c v
 | .undef, _, _ => by unfold repC; trivial
 | .nilsl, _, k => by unfold repC at *; exact k
 | .nilp, _, k => by unfold repC at *; exact k
 | .nilfn, _, k => by unfold repC at *; exact k
 | .int _ _, _, k => by unfold repC at *; exact k
 | .bool _, _, k => by unfold repC at *; exact k
 | .str _, _, k => by unfold repC at *; exact k
 | .sl t xs cp, v, k => by unfold repC at *; exact ⟨hA0 h.k _ _ _ k.1, k.2⟩
 | .row id, v, k => by unfold repC at *; exact ⟨fun hn => k.1 (h.N _ hn), by rw [h.σ id k.1]; exact k.2⟩
 | .win id sz lo len, v, k => by
   unfold repC at *; obtain ⟨k1, k2⟩ := k
   exact ⟨fun hn => k1 (h.N _ hn), by rw [h.σ id k1]; exact k2⟩
 | .loc id off, v, k => by
   unfold repC at *; obtain ⟨k1, k2⟩ := k
   exact ⟨fun hn => k1 (h.N _ hn), by rw [h.σ id k1]; exact k2⟩
 | .rp t y off, v, k => by
   unfold repC at *; obtain ⟨b, o, vs, e, k1, k2⟩ := k
   exact ⟨b, o, vs, e, hA0 h.k _ _ _ k1, k2.keep h.k⟩
 | .ep id sz i off, v, k => by
   unfold repC at *; obtain ⟨k1, k2⟩ := k
   exact ⟨fun hn => k1 (h.N _ hn), by rw [h.σ id k1]; exact k2⟩
 | .map id, v, k => by unfold repC at *; exact ⟨fun hn => k.1 (h.N _ hn), by rw [h.σ id k.1]; exact k.2⟩
 | .fn f caps, v, k => by
   unfold repC at *; obtain ⟨vs, e, k1⟩ := k
   exact ⟨vs, e, sA0 h caps vs k1⟩
 | .cs id n, v, k => by
   unfold repC at *; obtain ⟨k1, k2⟩ := k
   exact ⟨fun hn => k1 (h.N _ hn), by rw [h.σ id k1]; exact k2⟩
 | .sp cs off, v, k => by
   unfold repC at *; obtain ⟨b, vs, e, k1, k2⟩ := k
   exact ⟨b, vs, e, sA0 h cs vs k1, k2.keep h.k⟩
 | .pk cs, v, k => by
   unfold repC at *; obtain ⟨vs, e, k1⟩ := k
   exact ⟨vs, e, sA0 h cs vs k1⟩
 | .mv f caps, v, k => by
   unfold repC at *; obtain ⟨vs, e, k1⟩ := k
   exact ⟨vs, e, sA0 h caps vs k1⟩
 | .glob _, _, k => by unfold repC at *; exact k
 | .nst fid i, v, k => by
   unfold repC at *; obtain ⟨k1, k2⟩ := k
   exact ⟨fun hn => k1 (h.N _ hn), by rw [h.σ fid k1]; exact k2⟩
 | .nep fid i sz kk off, v, k => by
   unfold repC at *; obtain ⟨k1, k2⟩ := k; exact ⟨fun hn => k1 (h.N _ hn), by rw [h.σ fid k1]; exact k2⟩
theorem sA0 {x y : Rx} (h : x.Keeps y) : ∀ (cs : List C1) (vs : List Value), repCs x cs vs → repCs y cs vs
 | [], vs, k => by unfold repCs at *; exact k
 | c :: cs, vs, k => by
   unfold repCs at *; obtain ⟨v, r, e, k1, k2⟩ := k; exact ⟨v, r, e, rA7 h c v k1, sA0 h cs r k2⟩
end
mutual
theorem pA0 {x y : Rx} (h : x.Keeps y) : ∀ (a : AV) (v : Value), repA x a v → repA y a v
 | .one c, v, k => by unfold repA at *; exact rA7 h c v k
 | .agg cs, v, k => by
   unfold repA at *; obtain ⟨vs, e, k1⟩ := k
   exact ⟨vs, e, sA0 h cs _ k1⟩
 | .tup a9s, v, k => by
   unfold repA at *; obtain ⟨vs, e, k1⟩ := k
   exact ⟨vs, e, kA3 h a9s _ k1⟩
 | .ifd c a, v, k => by
   unfold repA at *; exact ⟨fun hc => pA0 h a v (k.1 hc), k.2⟩
theorem kA3 {x y : Rx} (h : x.Keeps y) : ∀ (a9s : List AV) (vs : List Value), repAs x a9s vs → repAs y a9s vs
 | [], vs, k => by unfold repAs at *; exact k
 | a :: a9s, vs, k => by
   unfold repAs at *; obtain ⟨v, r, e, k1, k2⟩ := k; exact ⟨v, r, e, pA0 h a v k1, kA3 h a9s r k2⟩
end
theorem cA3 {x y : Rx} (h : x.Keeps y) {kt vt : Ty} {ka va : Bool} : ∀ (l : List (kt.den × vt.den)) (es : List MapEntry), mapRep x kt vt ka va l es → mapRep y kt vt ka va l es
 | [], _, k => k
 | _ :: l, _, ⟨e, r, ks, vs, he, e1, k1, e2, k2, k3⟩ => ⟨e, r, ks, vs, he, e1, hA0 h.k _ _ _ k1, e2, hA0 h.k _ _ _ k2, cA3 h l r k3⟩
theorem dA1 {w w' : World} {e : TypeId} {s : Nat} {v : Value} {n : Nat} {xs : List Value} (h : RowR w e s v n xs)
 (hb : ∀ g, blkOf v = some g → w'.heap[g]? = w.heap[g]?) : RowR w' e s v n xs := by
 obtain ⟨h1, h2⟩ := h; refine ⟨h1, h2.imp id ?_⟩; rintro ⟨g, cap, cur, hc, rfl, h4, h5⟩; exact ⟨g, cap, cur, hc, rfl, by rw [hb g (gA0 hc)]; exact h4, h5⟩
theorem fA5 {x y : Rx} (h : x.Keeps y) {e : TypeId} {t : Ty} {xss : List (List t.den)} {vs : List Value} (k : famRep x e t xss vs) (hb : ∀ u ∈ vs, ∀ b, blkOf u = some b → y.w.heap[b]? = x.w.heap[b]?) : famRep y e t xss vs where
 len := k.len
 row := fun i xs v h1 h2 => by
  obtain ⟨k1, flat, k2, k3⟩ := k.row i xs v h1 h2; exact ⟨k1, flat, dA1 k2 (hb v (List.mem_of_getElem? h2)), fA0 (hA0 h.k t) _ _ k3⟩
 inj := k.inj
theorem rA6 {x y : Rx} (h : x.Keeps y) {kt : Ty} {ka : Bool} {hole : Option Nat} {ks : List kt.den} {es : List MapEntry} {vs : List Value} (k : mapgRep x kt ka hole ks es vs) : mapgRep y kt ka hole ks es vs where
 len := k.len
 lenv := k.lenv
 at_ := fun i a en v h1 h2 h3 => by
  obtain ⟨k1, k2, kvs, k3, k4⟩ := k.at_ i a en v h1 h2 h3; exact ⟨k1, k2, kvs, k3, hA0 h.k _ _ _ k4⟩
theorem fB3 {x : Rx} {e : TypeId} {t : Ty} {xss : List (List t.den)} {vs : List Value} (k : famRep x e t xss vs) : ∀ u ∈ vs, ∀ b, blkOf u = some b → b < x.w.heap.size := by
 intro u hu b hb; obtain ⟨i, hi, rfl⟩ := List.getElem_of_mem hu; have hi2 : i < xss.length := by rw [← k.len]; exact hi
 obtain ⟨_, flat, k2, _⟩ := k.row i xss[i] vs[i] (List.getElem?_eq_getElem hi2) (List.getElem?_eq_getElem hi)
 rcases k2.2 with ⟨_, a, e2⟩ | ⟨g, cap, cur, hc, e2, hg, _⟩
 · rw [e2, cA1] at hb; cases hb
 · rw [e2, gA0 hc] at hb; simp only [Option.some.injEq] at hb; subst hb; exact (Array.getElem?_eq_some_iff.1 hg).1
theorem fA1 {x y : Rx} (h : Keep x.w y.w x.O y.O) {t : Ty} {p : Nat} (q : t.den × Option Value) (c : List Value) (k : elG x t p q c) : elG y t p q c :=
 ⟨k.1, k.2.1, k.2.2.1, hA0 h t _ _ k.2.2.2⟩
theorem rA3 {x y : Rx} (h : x.Keeps y) {id : Nat} (hid : ¬ x.N id) : ∀ (B : Blk), repB x id B →
 (own B = true → ∀ b, hb (x.σ id) b → y.w.heap[b]? = x.w.heap[b]?) → repB y id B
 | .dead, _, _ => trivial
 | .cells e cs, ⟨b, vs, e1, e2, k, k1⟩, hb => ⟨b, vs, by rw [h.σ id hid]; exact e1, by rw [hb rfl b (by rw [e1]; exact .inl rfl)]; exact e2, sA0 h cs vs k, k1⟩
 | .row e t xs, ⟨n, flat, e1, k, k1⟩, hb => ⟨n, flat, e1, by rw [h.σ id hid]; exact dA1 k (fun g hg => hb rfl g (.inl hg)), fA0 (hA0 h.k t) _ _ k1⟩
 | .settled t xs, k, _ => by unfold repB at *; rw [h.σ id hid]; exact hA0 h.k _ _ _ k
 | .mapb kt vt ka va l, ⟨r, es, cl, e1, e2, k, ks⟩, hb => ⟨r, es, cl, by rw [h.σ id hid]; exact e1, by rw [hb rfl r (by rw [e1]; exact .inl rfl)]; exact e2, cA3 h l _ k, ks⟩
 | .fam e t xss, ⟨f, vs, e1, k1⟩, hb => ⟨f, vs, by rw [h.σ id hid]; exact e1, fA5 h k1 (fun u hu b hbu => hb rfl b (by rw [e1]; exact hb_fam.2 ⟨u, hu, hbu⟩))⟩
 | .mapg kt ka fid ks hole, ⟨r, es, f, vs, e1, e2, e3, e4, k⟩, hb => ⟨r, es, f, vs, by rw [h.σ id hid]; exact e1, by rw [hb rfl r (by rw [e1]; exact .inl rfl)]; exact e2, fun hn => e3 (h.N _ hn), by rw [h.σ fid e3]; exact e4, rA6 h k⟩
 | .rowg e t p fid xs hole, ⟨f, vs, flat, e1, e2, e3, k, k1⟩, hb => ⟨f, vs, flat, fun hn => e1 (h.N _ hn), by rw [h.σ fid e1]; exact e2, e3, by rw [h.σ id hid]; exact dA1 k (fun g hg => hb rfl g (.inl hg)), fA0 (fA1 h.k) _ _ k1⟩
 | .lenb n, ⟨a, c, e1, k⟩, _ => ⟨a, c, by rw [h.σ id hid]; exact e1, k⟩
 | .scell cs, ⟨b, vs, e1, k, k1⟩, _ => ⟨b, vs, by rw [h.σ id hid]; exact e1, sA0 h cs vs k, k1.keep h.k⟩
theorem xA3 {x : Rx} {id : Nat} : ∀ {B : Blk}, repB x id B → own B = true → ∀ b, hb (x.σ id) b → b < x.w.heap.size
 | .cells e cs, ⟨b, vs, e1, e2, _⟩, _, b', hb => by
   rw [e1, hb_ptr] at hb; simp [blkOf] at hb; subst hb
   exact (Array.getElem?_eq_some_iff.1 e2).1
 | .row e t xs, ⟨n, flat, _, k, _⟩, _, b', hb => by
   rcases k.2 with ⟨_, a, e1⟩ | ⟨g, cap, cur, hc, e1, hg, _⟩
   · rw [e1, hb_slice, cA1] at hb; cases hb
   · rw [e1, hb_slice, gA0 hc] at hb; simp only [Option.some.injEq] at hb; subst hb
     exact (Array.getElem?_eq_some_iff.1 hg).1
 | .mapb kt vt ka va l, ⟨r, es, cl, e1, e2, _⟩, _, b', hb => by
   rw [e1, hb_map] at hb; simp [blkOf] at hb; subst hb
   exact (Array.getElem?_eq_some_iff.1 e2).1
 | .fam e t xss, ⟨f, vs, e1, k1⟩, _, b', hb => by
   rw [e1, hb_fam] at hb; obtain ⟨u, hu, hbu⟩ := hb
   exact fB3 k1 u hu b' hbu
 | .mapg kt ka fid ks hole, ⟨r, es, f, vs, e1, e2, _⟩, _, b', hb => by
   rw [e1, hb_map] at hb; simp [blkOf] at hb; subst hb
   exact (Array.getElem?_eq_some_iff.1 e2).1
 | .rowg e t p fid xs hole, ⟨f, vs, flat, _, _, _, k, _⟩, _, b', hb => by
   rcases k.2 with ⟨_, a, e1⟩ | ⟨g, cap, cur, hc, e1, hg, _⟩
   · rw [e1, hb_slice, cA1] at hb; cases hb
   · rw [e1, hb_slice, gA0 hc] at hb; simp only [Option.some.injEq] at hb; subst hb; exact (Array.getElem?_eq_some_iff.1 hg).1
def datB : Obj → Bool
 | .cells .. | .map .. => true
 | _ => false
theorem qB6 {x : Rx} {id : Nat} : ∀ {B : Blk}, repB x id B → own B = true → ∀ b, hb (x.σ id) b → ∃ o : Obj, x.w.heap[b]? = some o ∧ datB o = true
 | .cells e cs, ⟨b, vs, e1, e2, _⟩, _, b', hb => by
   rw [e1, hb_ptr] at hb; simp [blkOf] at hb; subst hb
   exact ⟨_, e2, rfl⟩
 | .row e t xs, ⟨n, flat, _, k, _⟩, _, b', hb => by
   rcases k.2 with ⟨_, a, e1⟩ | ⟨g, cap, cur, hc, e1, hg, _⟩
   · rw [e1, hb_slice, cA1] at hb; cases hb
   · rw [e1, hb_slice, gA0 hc] at hb; simp only [Option.some.injEq] at hb; subst hb
     exact ⟨_, hg, rfl⟩
 | .mapb kt vt ka va l, ⟨r, es, cl, e1, e2, _⟩, _, b', hb => by
   rw [e1, hb_map] at hb; simp [blkOf] at hb; subst hb
   exact ⟨_, e2, rfl⟩
 | .fam e t xss, ⟨f, vs, e1, k1⟩, _, b', hb => by
   rw [e1, hb_fam] at hb; obtain ⟨u, hu, hbu⟩ := hb; obtain ⟨i, hi, rfl⟩ := List.getElem_of_mem hu; have hi2 : i < xss.length := by rw [← k1.len]; exact hi
   obtain ⟨_, flat, k2, _⟩ := k1.row i xss[i] vs.toList[i] (List.getElem?_eq_getElem hi2) (List.getElem?_eq_getElem hi)
   rcases k2.2 with ⟨_, a, e2⟩ | ⟨g, cap, cur, hc, e2, hg, _⟩
   · rw [e2, cA1] at hbu; cases hbu
   · rw [e2, gA0 hc] at hbu; simp only [Option.some.injEq] at hbu; subst hbu
     exact ⟨_, hg, rfl⟩
 | .mapg kt ka fid ks hole, ⟨r, es, f, vs, e1, e2, _⟩, _, b', hb => by
   rw [e1, hb_map] at hb; simp [blkOf] at hb; subst hb
   exact ⟨_, e2, rfl⟩
 | .rowg e t p fid xs hole, ⟨f, vs, flat, _, _, _, k, _⟩, _, b', hb => by
   rcases k.2 with ⟨_, a, e1⟩ | ⟨g, cap, cur, hc, e1, hg, _⟩
   · rw [e1, hb_slice, cA1] at hb; cases hb
   · rw [e1, hb_slice, gA0 hc] at hb; simp only [Option.some.injEq] at hb; subst hb; exact ⟨_, hg, rfl⟩
structure Evo (cx : Cx) (w : World) : Prop where
 os : w.os = cx.w0.os
 tape : w.tape = cx.w0.tape
 output : w.output = cx.w0.output
 drawn : cx.D → cx.w0.drawn ≤ w.drawn
 size : cx.w0.heap.size ≤ w.heap.size
 block : ∀ b, b < cx.w0.heap.size → ¬ cx.Mu b → w.heap[b]? = cx.w0.heap[b]?
def rx (cx : Cx) (σ : Nat → Value) (N : Nat → Prop) (m : Mem) (w : World) : Rx := ⟨w, Owned cx σ m, σ, N⟩
def GLe (a b : GVs) : Prop := ∀ g v, findL a g = some v → findL b g = some v
def GlOk (cx : Cx) : Prop := ∀ g v, findL cx.gv g = some v → ¬ cx.Mu g ∧ ¬ cx.F g ∧ g < cx.w0.heap.size ∧
 ∃ (vs : Array Value) (e : TypeId) (hh : Nat × Nat), cx.w0.heap[g]? = some (.cells vs e hh) ∧ ∀ (w : World) (O : Nat → Prop), (∀ b, b < cx.w0.heap.size → ¬ cx.F b → ¬ cx.Mu b → w.heap[b]? = cx.w0.heap[b]? ∧ ¬ O b) → roAll (ro w O v.t) v.xs vs.toList
structure RepM (cx : Cx) (σ : Nat → Value) (N : Nat → Prop) (m : Mem) (w : World) : Prop where
 blk : ∀ id, repB (rx cx σ N m w) id (m id)
 fresh : ∀ id, N id → m id = .dead
 inj : ∀ id id' b, own (m id) = true → own (m id') = true → hb (σ id) b → hb (σ id') b → id = id'
 notF : ∀ id b, own (m id) = true → hb (σ id) b → ¬ cx.F b
 low : ∀ id b, own (m id) = true → hb (σ id) b → cx.w0.heap.size ≤ b ∨ cx.Mu b
 evo : Evo cx w
 hF : ∀ b, cx.F b → b < w.heap.size
 hone : ∀ id, (σ id).oneCell' = true
 fix : ∀ i, i < cx.np → ¬ N i ∧ σ i = cx.arg i
 mks : ∀ D, D ∈ cx.mks → w.heap[D]? = some (.deferred (some []))
 gl : GlOk cx
theorem RepM.stepD {cx : Cx} {σ σ' : Nat → Value} {N N' : Nat → Prop} {m m' : Mem} {w w' : World} (h : RepM cx σ N m w) (tch : Nat → Prop)
 (hN : ∀ id, N' id → N id) (hfr : ∀ id, N' id → m' id = .dead)
 (hm : ∀ id, ¬ tch id → m' id = m id ∧ σ' id = σ id) (hσ : ∀ id, ¬ N id → σ' id = σ id)
 (hw : ∀ b, b < w.heap.size → (∀ id, tch id → own (m id) = true → ¬ hb (σ id) b) → w'.heap[b]? = w.heap[b]?)
 (hsz : w.heap.size ≤ w'.heap.size ∧ (cx.D → w.drawn ≤ w'.drawn)) (hos : w'.os = w.os) (htape : w'.tape = w.tape) (hout : w'.output = w.output)
 (hown : ∀ id b, tch id → own (m' id) = true → hb (σ' id) b → w.heap.size ≤ b ∨ ∃ i, tch i ∧ own (m i) = true ∧ hb (σ i) b)
 (hinj : ∀ id id' b, tch id → tch id' → own (m' id) = true → own (m' id') = true → hb (σ' id) b → hb (σ' id') b → id = id')
 (hone : ∀ id, tch id → (σ' id).oneCell' = true)
 (hrep : Rx.Keeps (rx cx σ N m w) (rx cx σ' N' m' w') → ∀ id, tch id → repB (rx cx σ' N' m' w') id (m' id)) :
 RepM cx σ' N' m' w' ∧ Rx.Keeps (rx cx σ N m w) (rx cx σ' N' m' w') := by
 have lt : ∀ id b, own (m id) = true → hb (σ id) b → b < w.heap.size := fun id b ho hb => xA3 (h.blk id) ho b hb; have hO : ∀ b, b < w.heap.size → Owned cx σ' m' b → Owned cx σ m b := by
  rintro b hb (hf | ⟨id, ho, hbl⟩)
  · exact .inl hf
  · by_cases ht : tch id
    · rcases hown id b ht ho hbl with h1 | ⟨i, _, h2, h3⟩
      · omega
      · exact .inr ⟨i, h2, h3⟩
    · obtain ⟨e1, e2⟩ := hm id ht; exact .inr ⟨id, by rw [← e1]; exact ho, by rw [← e2]; exact hbl⟩
 have hK : Rx.Keeps (rx cx σ N m w) (rx cx σ' N' m' w') :=
  ⟨.ex fun b hb hno => ⟨fun ho => hno (hO b hb ho), hw b hb fun id _ ho hbl => hno (.inr ⟨id, ho, hbl⟩)⟩, hσ, hN⟩
 refine ⟨⟨fun id => ?_, hfr, fun id id' b ho ho' hb hb' => ?_, fun id b ho hb => ?_, fun id b ho hb => ?_, ?_, fun b hb => Nat.lt_of_lt_of_le (h.hF b hb) hsz.1, fun id => ?_, fun i hi => ⟨fun hn => (h.fix i hi).1 (hN i hn), (hσ i (h.fix i hi).1).trans (h.fix i hi).2⟩, fun D hD => ?_, h.gl⟩, hK⟩
 · by_cases ht : tch id
   · exact hrep hK id ht
   · obtain ⟨e1, e2⟩ := hm id ht; rw [e1]; by_cases hn : N id
     · rw [h.fresh id hn]; trivial
     · refine rA3 hK hn _ (h.blk id) fun ho b hb => hw b (lt id b ho hb) fun i hti hoi hbi => ht ?_; rw [h.inj id i b ho hoi hb hbi]; exact hti
 · by_cases ht : tch id <;> by_cases ht' : tch id'
   · exact hinj id id' b ht ht' ho ho' hb hb'
   · obtain ⟨e1, e2⟩ := hm id' ht'; rw [e1] at ho'; rw [e2] at hb'
     rcases hown id b ht ho hb with h1 | ⟨i, hi, h2, h3⟩
     · have := lt id' b ho' hb'; omega
     · exact absurd (h.inj id' i b ho' h2 hb' h3 ▸ hi) ht'
   · obtain ⟨e1, e2⟩ := hm id ht; rw [e1] at ho; rw [e2] at hb
     rcases hown id' b ht' ho' hb' with h1 | ⟨i, hi, h2, h3⟩
     · have := lt id b ho hb; omega
     · exact absurd (h.inj id i b ho h2 hb h3 ▸ hi) ht
   · obtain ⟨e1, e2⟩ := hm id ht; obtain ⟨e3, e4⟩ := hm id' ht'; rw [e1] at ho; rw [e2] at hb; rw [e3] at ho'; rw [e4] at hb'; exact h.inj id id' b ho ho' hb hb'
 · by_cases ht : tch id
   · rcases hown id b ht ho hb with h1 | ⟨i, _, h2, h3⟩
     · intro hf; have := h.hF b hf; omega
     · exact h.notF i b h2 h3
   · obtain ⟨e1, e2⟩ := hm id ht; rw [e1] at ho; rw [e2] at hb; exact h.notF id b ho hb
 · by_cases ht : tch id
   · rcases hown id b ht ho hb with h1 | ⟨i, _, h2, h3⟩
     · have := h.evo.size; exact .inl (by omega)
     · exact h.low i b h2 h3
   · obtain ⟨e1, e2⟩ := hm id ht; rw [e1] at ho; rw [e2] at hb; exact h.low id b ho hb
 · refine ⟨hos.trans h.evo.os, htape.trans h.evo.tape, hout.trans h.evo.output, fun d => Nat.le_trans (h.evo.drawn d) (hsz.2 d), Nat.le_trans h.evo.size hsz.1, fun b hb hmu => ?_⟩; rw [hw b (by have := h.evo.size; omega) fun id _ ho hbl => ?_]
   · exact h.evo.block b hb hmu
   · rcases h.low id b ho hbl with h1 | h1
     · omega
     · exact hmu h1
 · by_cases ht : tch id
   · exact hone id ht
   · rw [(hm id ht).2]; exact h.hone id
 · have hD2 := h.mks D hD; rw [hw D (Array.getElem?_eq_some_iff.1 hD2).1 fun id _ ho hbl => ?_]
   · exact hD2
   · obtain ⟨o, e1, e2⟩ := qB6 (h.blk id) ho D hbl; have e1 : w.heap[D]? = some o := e1; rw [hD2] at e1; cases e1; cases e2
theorem RepM.step {cx : Cx} {σ σ' : Nat → Value} {N N' : Nat → Prop} {m m' : Mem} {w w' : World} (h : RepM cx σ N m w) (tch : Nat → Prop)
 (hN : ∀ id, N' id → N id) (hfr : ∀ id, N' id → m' id = .dead)
 (hm : ∀ id, ¬ tch id → m' id = m id ∧ σ' id = σ id) (hσ : ∀ id, ¬ N id → σ' id = σ id)
 (hw : ∀ b, b < w.heap.size → (∀ id, tch id → own (m id) = true → ¬ hb (σ id) b) → w'.heap[b]? = w.heap[b]?)
 (hsz : w.heap.size ≤ w'.heap.size ∧ w.drawn ≤ w'.drawn) (hos : w'.os = w.os) (htape : w'.tape = w.tape) (hout : w'.output = w.output)
 (hown : ∀ id b, tch id → own (m' id) = true → hb (σ' id) b → w.heap.size ≤ b ∨ ∃ i, tch i ∧ own (m i) = true ∧ hb (σ i) b)
 (hinj : ∀ id id' b, tch id → tch id' → own (m' id) = true → own (m' id') = true → hb (σ' id) b → hb (σ' id') b → id = id')
 (hone : ∀ id, tch id → (σ' id).oneCell' = true)
 (hrep : Rx.Keeps (rx cx σ N m w) (rx cx σ' N' m' w') → ∀ id, tch id → repB (rx cx σ' N' m' w') id (m' id)) :
 RepM cx σ' N' m' w' ∧ Rx.Keeps (rx cx σ N m w) (rx cx σ' N' m' w') :=
 h.stepD tch hN hfr hm hσ hw ⟨hsz.1, fun _ => hsz.2⟩ hos htape hout hown hinj hone hrep
theorem RepM.gl_far {cx : Cx} {σ : Nat → Value} {N : Nat → Prop} {m : Mem} {w : World} (h : RepM cx σ N m w) : ∀ b, b < cx.w0.heap.size → ¬ cx.F b → ¬ cx.Mu b → w.heap[b]? = cx.w0.heap[b]? ∧ ¬ Owned cx σ m b := fun b hb hF hM => by
 refine ⟨h.evo.block b hb hM, ?_⟩; rintro (q | ⟨id, ho, hbb⟩)
 · exact hF q
 · rcases h.low id b ho hbb with q | q
   · omega
   · exact hM q
theorem RepM.gl_not {cx : Cx} {σ : Nat → Value} {N : Nat → Prop} {m : Mem} {w : World} (h : RepM cx σ N m w) {g : Nat} {v : GV} (hv : findL cx.gv g = some v) : (∀ id, own (m id) = true → ¬ hb (σ id) g) ∧ ¬ cx.F g ∧ g < w.heap.size ∧
 ∃ (vs : Array Value) (e : TypeId) (hh : Nat × Nat), w.heap[g]? = some (.cells vs e hh) ∧ roAll (ro w (Owned cx σ m) v.t) v.xs vs.toList := by
 obtain ⟨a, b, c, vs, e, hh, h1, h2⟩ := h.gl g v hv; refine ⟨fun id ho hbb => ?_, b, Nat.lt_of_lt_of_le c h.evo.size, vs, e, hh, by rw [h.evo.block g c a]; exact h1, h2 w _ h.gl_far⟩
 rcases h.low id g ho hbb with q | q
 · omega
 · exact a q
theorem RepM.gl_next {cx cx' : Cx} {σ : Nat → Value} {N : Nat → Prop} {m : Mem} {w : World} (h : RepM cx σ N m w) (e1 : cx'.gv = cx.gv) (e2 : cx'.w0 = w) (e3 : ∀ b, cx'.F b → cx.F b ∨ ∃ id, own (m id) = true ∧ hb (σ id) b) (e4 : ∀ b, cx'.Mu b → ∃ id, own (m id) = true ∧ hb (σ id) b) : GlOk cx' := fun g v hv => by
 rw [e1] at hv; obtain ⟨k1, k2, k3, _⟩ := h.gl_not hv; obtain ⟨a, b, c, vs, e, hh, h1, h2⟩ := h.gl g v hv; refine ⟨fun q => ?_, fun q => ?_, by rw [e2]; exact k3, vs, e, hh, by rw [e2, h.evo.block g c a]; exact h1, fun w2 O hk => h2 w2 O fun b hb hF hM => ?_⟩
 · obtain ⟨id, h1, h2⟩ := e4 g q; exact k1 id h1 h2
 · rcases e3 g q with q | ⟨id, h1, h2⟩
   · exact k2 q
   · exact k1 id h1 h2
 · obtain ⟨f1, f2⟩ := h.gl_far b hb hF hM; have f3 : ∀ id, own (m id) = true → ¬ Go.Ev.hb (σ id) b := fun id ho hbb => f2 (.inr ⟨id, ho, hbb⟩); obtain ⟨g1, g2⟩ := hk b (by rw [e2]; exact Nat.lt_of_lt_of_le hb h.evo.size) (fun q => (e3 b q).elim hF fun ⟨id, q1, q2⟩ => f3 id q1 q2) (fun q => by obtain ⟨id, q1, q2⟩ := e4 b q; exact f3 id q1 q2); exact ⟨by rw [g1, e2]; exact f1, g2⟩
theorem RepM.grow {cx : Cx} {σ : Nat → Value} {N : Nat → Prop} {m : Mem} {w w' : World} (h : RepM cx σ N m w) {row : Option Nat} (hg : w.grownBy w' row) (hd : w.drawn ≤ w'.drawn) (hnm : ∀ id, own (m id) = true → ∀ b, hb (σ id) b → some b ≠ row)
 (hr : ∀ r, row = some r → cx.w0.heap.size ≤ r ∧ ∃ o : Obj, w.heap[r]? = some o ∧ o.isCells = false) (mk' : List Nat) (hmk : ∀ D ∈ mk', w'.heap[D]? = some (.deferred (some []))) : RepM { cx with mks := mk' } σ N m w' := by
 have lt : ∀ id b, own (m id) = true → hb (σ id) b → b < w.heap.size := fun id b ho hb => xA3 (h.blk id) ho b hb
 have hK : Rx.Keeps (rx cx σ N m w) (rx { cx with mks := mk' } σ N m w') := by
  refine ⟨⟨fun b hb hno => ⟨hno, fun o ho hc => ?_⟩⟩, fun _ _ => rfl, fun _ h => h⟩; refine (hg.block b hb fun e => ?_).trans ho; obtain ⟨_, o', ho', hc'⟩ := hr b e.symm; have ho : w.heap[b]? = some o := ho; rw [ho] at ho'; cases ho'; rw [hc] at hc'; cases hc'
 refine ⟨fun id => ?_, h.fresh, h.inj, h.notF, h.low, ⟨hg.os.trans h.evo.os, hg.tape.trans h.evo.tape, hg.output.trans h.evo.output, fun d => Nat.le_trans (h.evo.drawn d) hd, Nat.le_trans h.evo.size hg.size, fun b hb hmu => ?_⟩, fun b hb => Nat.lt_of_lt_of_le (h.hF b hb) hg.size, h.hone, h.fix, hmk, h.gl⟩
 · by_cases hn : N id
   · rw [h.fresh id hn]; trivial
   · exact rA3 hK hn _ (h.blk id) fun ho b hb => hg.block b (lt id b ho hb) (hnm id ho b hb)
 · rw [hg.block b (by have := h.evo.size; simp only at hb; omega) fun e => by have := (hr b e.symm).1; simp only at hb; omega]; exact h.evo.block b hb hmu
end Go.Ev
