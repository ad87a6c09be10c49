/- What the abstract values say of a world; how they are kept. -/
import Derived.Test.YthbcniifeeoplaaEvBase
namespace Go.Ev

theorem add_none (b o j : Nat) : (⟨b, o, none⟩ : Addr).add j = ⟨b, o + j, none⟩ := by
  unfold Addr.add; split <;> simp_all

/-! ### plain data in memory that nobody writes -/

def roAll {α : Type} (r : α → List Value → Prop) : List α → List Value → Prop
  | [], vs => vs = []
  | x :: xs, vs => ∃ c d, vs = c ++ d ∧ r x c ∧ roAll r xs d

def CellsAt (w : World) (O : Nat → Prop) (b o : Nat) (vs : List Value) : Prop :=
  ∀ j u, vs[j]? = some u → ¬ O b ∧ w.cell? ⟨b, o + j, none⟩ = some u

def ro (w : World) (O : Nat → Prop) : (t : Ty) → t.den → List Value → Prop
  | .int k, n, vs => vs = [.int k n] ∧ InR k n
  | .bool, b, vs => vs = [.bool b]
  | .str, s, vs => vs = [.string s] ∧ s.size ≤ maxLen
  | .unit, _, vs => vs = []
  | .sl t, xs, vs => ∃ a len cap, vs = [.slice a len cap] ∧ len = xs.length ∧ len ≤ cap ∧ cap ≤ maxLen ∧
      (cap = 0 ∨ ∃ b o flat, a = some ⟨b, o, none⟩ ∧ roAll (ro w O t) xs flat ∧ CellsAt w O b o flat)
  | .pair a b, p, vs => ∃ c d, vs = c ++ d ∧ ro w O a p.1 c ∧ ro w O b p.2 d

structure Keep (w w' : World) (O O' : Nat → Prop) : Prop where
  blk : ∀ b, b < w.heap.size → ¬ O b → ¬ O' b ∧ w'.heap[b]? = w.heap[b]?

theorem Keep.refl (w : World) (O : Nat → Prop) : Keep w w O O := ⟨fun _ _ h => ⟨h, rfl⟩⟩
theorem Keep.trans {a b c : World} {O O' O'' : Nat → Prop} (h : Keep a b O O') (k : Keep b c O' O'') (hs : a.heap.size ≤ b.heap.size) : Keep a c O O'' :=
  ⟨fun x hx ho => by
    obtain ⟨h1, h2⟩ := h.blk x hx ho
    obtain ⟨k1, k2⟩ := k.blk x (by omega) h1
    exact ⟨k1, k2.trans h2⟩⟩

theorem CellsAt.keep {w w' : World} {O O' : Nat → Prop} (hk : Keep w w' O O') {b o : Nat} {vs : List Value} (h : CellsAt w O b o vs) : CellsAt w' O' b o vs := by
  intro j u hu
  obtain ⟨h1, h2⟩ := h j u hu
  have hb : b < w.heap.size := block_lt_of_cell h2
  obtain ⟨k1, k2⟩ := hk.blk b hb h1
  exact ⟨k1, (World.cell?_of_block (a := ⟨b, o + j, none⟩) k2).trans h2⟩

theorem roAll_mono {α : Type} {r r' : α → List Value → Prop} (h : ∀ x c, r x c → r' x c) : ∀ (xs : List α) (vs : List Value), roAll r xs vs → roAll r' xs vs
  | [], _, hv => hv
  | _ :: xs, _, ⟨c, d, e, hx, hr⟩ => ⟨c, d, e, h _ _ hx, roAll_mono h xs d hr⟩

theorem ro_keep {w w' : World} {O O' : Nat → Prop} (hk : Keep w w' O O') : ∀ (t : Ty) (x : t.den) (vs : List Value), ro w O t x vs → ro w' O' t x vs
  | .int _, _, _, h => h
  | .bool, _, _, h => h
  | .str, _, _, h => h
  | .unit, _, _, h => h
  | .sl t, _, _, ⟨a, len, cap, h1, h2, h3, h4, h5⟩ => ⟨a, len, cap, h1, h2, h3, h4, h5.imp id fun ⟨b, o, flat, e, hr, hc⟩ => ⟨b, o, flat, e, roAll_mono (ro_keep hk t) _ _ hr, hc.keep hk⟩⟩
  | .pair a b, p, _, ⟨c, d, e, h1, h2⟩ => ⟨c, d, e, ro_keep hk a p.1 c h1, ro_keep hk b p.2 d h2⟩

theorem ro_len {w : World} {O : Nat → Prop} : ∀ (t : Ty) (x : t.den) (vs : List Value), ro w O t x vs → vs.length = t.n
  | .int _, _, _, h => by simp [h.1, Ty.n]
  | .bool, _, _, h => by rw [show _ = _ from h]; simp [Ty.n]
  | .str, _, _, h => by simp [h.1, Ty.n]
  | .unit, _, _, h => by rw [show _ = _ from h]; simp [Ty.n]
  | .sl _, _, _, ⟨_, _, _, h, _⟩ => by simp [h, Ty.n]
  | .pair a b, p, _, ⟨c, d, e, h1, h2⟩ => by rw [e, List.length_append, ro_len a p.1 c h1, ro_len b p.2 d h2]; rfl

theorem ro_one {w : World} {O : Nat → Prop} : ∀ (t : Ty) (x : t.den) (vs : List Value), ro w O t x vs → ∀ u ∈ vs, u.oneCell' = true
  | .int _, _, _, h, u, hu => by simp [h.1] at hu; subst hu; rfl
  | .bool, _, _, h, u, hu => by rw [show _ = _ from h] at hu; simp at hu; subst hu; rfl
  | .str, _, _, h, u, hu => by simp [h.1] at hu; subst hu; rfl
  | .unit, _, _, h, u, hu => by rw [show _ = _ from h] at hu; simp at hu
  | .sl _, _, _, ⟨_, _, _, h, _⟩, u, hu => by simp [h] at hu; subst hu; rfl
  | .pair a b, p, _, ⟨c, d, e, h1, h2⟩, u, hu => by
    rw [e, List.mem_append] at hu
    exact hu.elim (ro_one a p.1 c h1 u) (ro_one b p.2 d h2 u)

theorem roAll_len {α : Type} {r : α → List Value → Prop} {n : Nat} (hn : ∀ x c, r x c → c.length = n) : ∀ (xs : List α) (vs : List Value), roAll r xs vs → vs.length = xs.length * n
  | [], _, h => by rw [show _ = _ from h]; simp
  | x :: xs, _, ⟨c, d, e, h, hr⟩ => by rw [e, List.length_append, hn x c h, roAll_len hn xs d hr, List.length_cons, Nat.add_mul]; omega

theorem roAll_append {α : Type} {r : α → List Value → Prop} : ∀ (xs ys : List α) (vs us : List Value), roAll r xs vs → roAll r ys us → roAll r (xs ++ ys) (vs ++ us)
  | [], _, _, _, h, k => by rw [show _ = _ from h]; exact k
  | _ :: xs, ys, _, us, ⟨c, d, e, h, hr⟩, k => ⟨c, d ++ us, by rw [e, List.append_assoc], h, roAll_append xs ys d us hr k⟩

theorem roAll_split {α : Type} {r : α → List Value → Prop} : ∀ (xs ys : List α) (vs : List Value), roAll r (xs ++ ys) vs → ∃ a b, vs = a ++ b ∧ roAll r xs a ∧ roAll r ys b
  | [], _, vs, h => ⟨[], vs, rfl, rfl, h⟩
  | _ :: xs, ys, _, ⟨c, d, e, h, hr⟩ => by
    obtain ⟨a, b, e', ha, hb⟩ := roAll_split xs ys d hr
    exact ⟨c ++ a, b, by rw [e, e', List.append_assoc], ⟨c, a, rfl, h, ha⟩, hb⟩

theorem roAll_one {α : Type} {r : α → List Value → Prop} : ∀ (xs : List α) (vs : List Value), roAll r xs vs → (∀ x c, r x c → ∀ u ∈ c, u.oneCell' = true) → ∀ u ∈ vs, u.oneCell' = true
  | [], _, h, _, u, hu => by rw [show _ = _ from h] at hu; simp at hu
  | x :: xs, _, ⟨c, d, e, h, hr⟩, k, u, hu => by
    rw [e, List.mem_append] at hu
    exact hu.elim (k x c h u) (roAll_one xs d hr k u)

/-- The element at a place. -/
theorem roAll_at {α : Type} {r : α → List Value → Prop} {n : Nat} (hn : ∀ x c, r x c → c.length = n) {xs : List α} {vs : List Value} (h : roAll r xs vs) {i : Nat} (hi : i < xs.length) :
    ∃ pre c post, vs = pre ++ (c ++ post) ∧ pre.length = i * n ∧ r xs[i] c ∧ roAll r (xs.take i) pre ∧ roAll r (xs.drop (i + 1)) post := by
  have e : xs = xs.take i ++ (xs[i] :: xs.drop (i + 1)) := by rw [List.getElem_cons_drop hi, List.take_append_drop]
  obtain ⟨pre, rest, hv, hp, hr⟩ := roAll_split _ _ vs (e ▸ h)
  obtain ⟨c, post, hr', hc, hpost⟩ := hr
  refine ⟨pre, c, post, by rw [hv, hr'], ?_, hc, hp, hpost⟩
  rw [roAll_len hn _ _ hp, List.length_take, Nat.min_eq_left (Nat.le_of_lt hi)]

theorem roAll_mem {α : Type} {r : α → List Value → Prop} : ∀ (xs : List α) (vs : List Value), roAll r xs vs → ∀ x ∈ xs, ∃ c, r x c
  | _ :: xs, _, ⟨c, d, _, h, hr⟩, x, hx => by
    cases List.mem_cons.1 hx with
    | inl e => exact ⟨c, e ▸ h⟩
    | inr e => exact roAll_mem xs d hr x e

theorem ro_wf {w : World} {O : Nat → Prop} : ∀ (t : Ty) (x : t.den) (vs : List Value), ro w O t x vs → Wf t x
  | .int _, _, _, h => h.2
  | .bool, _, _, _ => trivial
  | .str, _, _, h => h.2
  | .unit, _, _, _ => trivial
  | .sl t, xs, _, ⟨a, len, cap, _, h2, h3, h4, h5⟩ => by
    refine ⟨by show List.length xs ≤ _; omega, fun x hx => ?_⟩
    rcases h5 with hc | ⟨b, o, flat, _, hr, _⟩
    · have : xs.length = 0 := by omega
      rw [List.eq_nil_of_length_eq_zero this] at hx
      cases hx
    · obtain ⟨c, hc⟩ := roAll_mem _ _ hr x hx
      exact ro_wf t x c hc
  | .pair a b, p, _, ⟨c, d, _, h1, h2⟩ => ⟨ro_wf a p.1 c h1, ro_wf b p.2 d h2⟩

/-! ### cells, values, blocks -/

def blkOf : Value → Option Nat
  | .pointer (some a) => some a.block
  | .slice (some a) _ (_ + 1) => some a.block
  | .map (some r) => some r
  | _ => none

/-- The blocks of a value: its own, or those of the values that a closure holds (a family's ghost). -/
def hb (v : Value) (b : Nat) : Prop := blkOf v = some b ∨ ∃ f vs, v = .func f #[] vs ∧ ∃ u ∈ vs.toList, blkOf u = some b
theorem hb_slice {a : Option Addr} {n c b : Nat} : hb (.slice a n c) b ↔ blkOf (.slice a n c) = some b :=
  ⟨fun h => h.elim id (fun ⟨_, _, e, _⟩ => by cases e), .inl⟩
theorem hb_ptr {a : Option Addr} {b : Nat} : hb (.pointer a) b ↔ blkOf (.pointer a) = some b :=
  ⟨fun h => h.elim id (fun ⟨_, _, e, _⟩ => by cases e), .inl⟩
theorem hb_map {r : Option Nat} {b : Nat} : hb (.map r) b ↔ blkOf (.map r) = some b :=
  ⟨fun h => h.elim id (fun ⟨_, _, e, _⟩ => by cases e), .inl⟩
theorem hb_fam {f : Fn} {vs : Array Value} {b : Nat} : hb (.func f #[] vs) b ↔ ∃ u ∈ vs.toList, blkOf u = some b :=
  ⟨fun h => h.elim (fun h => by cases h) (fun ⟨_, _, e, h⟩ => by cases e; exact h), fun h => .inr ⟨f, vs, rfl, h⟩⟩

def own : Blk → Bool
  | .cells .. | .row .. | .mapb .. | .fam .. | .mapg .. => true
  | _ => false

/-- What surrounds the call: the world at its beginning, what the callers own, which old blocks it may write; the pointers that came in. -/
structure Cx where
  w0 : World
  F : Nat → Prop
  Mu : Nat → Prop
  np : Nat
  arg : Nat → Value

def Owned (cx : Cx) (σ : Nat → Value) (m : Mem) (b : Nat) : Prop := cx.F b ∨ ∃ id, own (m id) = true ∧ hb (σ id) b

structure Rx where
  w : World
  O : Nat → Prop
  σ : Nat → Value
  N : Nat → Prop

mutual
def repC (x : Rx) : C1 → Value → Prop
  | .undef, _ => True
  | .nilsl, v => v = .slice none 0 0
  | .nilp, v => v = .pointer none
  | .nilfn, v => v = .nilFunc
  | .int k n, v => v = .int k n ∧ InR k n
  | .bool b, v => v = .bool b
  | .str s, v => v = .string s ∧ s.size ≤ maxLen
  | .sl t xs cp, v => ro x.w x.O (.sl t) xs [v] ∧ (cp = true → ∃ a n, v = .slice a n n)
  | .row id, v => ¬ x.N id ∧ v = x.σ id
  | .win id sz lo len, v => ¬ x.N id ∧ ∃ a n c a', x.σ id = .slice a n c ∧ lo + len ≤ n ∧ n ≤ c ∧ v = .slice a' len (c - lo) ∧ (lo < c → ∃ b, a = some ⟨b, 0, none⟩ ∧ a' = some ⟨b, lo * sz, none⟩)
  | .loc id off, v => ¬ x.N id ∧ ∃ b, x.σ id = .pointer (some ⟨b, 0, none⟩) ∧ v = .pointer (some ⟨b, off, none⟩)
  | .rp t y off, v => ∃ b o vs, v = .pointer (some ⟨b, o + off, none⟩) ∧ ro x.w x.O t y vs ∧ CellsAt x.w x.O b o vs
  | .ep id sz i off, v => ¬ x.N id ∧ ∃ b n c, x.σ id = .slice (some ⟨b, 0, none⟩) n c ∧ v = .pointer (some ⟨b, i.toNat * sz + off, none⟩)
  | .map id, v => ¬ x.N id ∧ v = x.σ id
  | .fn f caps, v => ∃ vs, v = .func (.func f) #[] vs.toArray ∧ repCs x caps vs
def repCs (x : Rx) : List C1 → List Value → Prop
  | [], vs => vs = []
  | c :: cs, vs => ∃ v r, vs = v :: r ∧ repC x c v ∧ repCs x cs r
end

mutual
def repA (x : Rx) : AV → Value → Prop
  | .one c, v => repC x c v
  | .agg cs, v => ∃ vs, v = .agg vs.toArray ∧ repCs x cs vs
  | .tup as, v => ∃ vs, v = .tuple vs.toArray ∧ repAs x as vs
  | .ifd c a, v => (c = true → repA x a v) ∧ (c = false → v = undef)
def repAs (x : Rx) : List AV → List Value → Prop
  | [], vs => vs = []
  | a :: as, vs => ∃ v r, vs = v :: r ∧ repA x a v ∧ repAs x as r
end

def oneAll (vs : List Value) : Prop := ∀ u ∈ vs, u.oneCell' = true

/-- A value out of its cells. -/
def mkV (ag : Bool) (vs : List Value) : Value := if ag then .agg vs.toArray else vs.getD 0 undef

def mapRep (x : Rx) (kt vt : Ty) (ka va : Bool) : List (kt.den × vt.den) → List MapEntry → Prop
  | [], es => es = []
  | p :: l, es => ∃ e r ks vs, es = e :: r ∧ e.key = mkV ka ks ∧ ro x.w x.O kt p.1 ks ∧ e.val = mkV va vs ∧ ro x.w x.O vt p.2 vs ∧ mapRep x kt vt ka va l r

/-- A row that is the call's own: without room, or in a block of its own. -/
def RowR (w : World) (e : TypeId) (size : Nat) (v : Value) (n : Nat) (xs : List Value) : Prop :=
  xs.length = n * size ∧
  ((n = 0 ∧ ∃ a, v = .slice a 0 0) ∨
   ∃ g cap cur, 0 < cap ∧ v = .slice (some ⟨g, 0, none⟩) n cap ∧ w.heap[g]? = some (.cells cur e (0, 0)) ∧ n ≤ cap ∧ cap ≤ maxLen ∧ cur.size = cap * size ∧ cur.toList.take (n * size) = xs)

theorem rowR_none (w : World) (e : TypeId) (size : Nat) (a : Option Addr) : RowR w e size (.slice a 0 0) 0 [] := ⟨by simp, .inl ⟨rfl, a, rfl⟩⟩
theorem rowR_of {w : World} {e : TypeId} {size : Nat} {g n cap : Nat} {cur : Array Value} {xs : List Value} (hl : xs.length = n * size) (hg : w.heap[g]? = some (.cells cur e (0, 0))) (h1 : n ≤ cap) (h2 : cap ≤ maxLen) (h3 : cur.size = cap * size)
    (h4 : cur.toList.take (n * size) = xs) : RowR w e size (.slice (some ⟨g, 0, none⟩) n cap) n xs := by
  refine ⟨hl, ?_⟩
  by_cases hc : cap = 0
  · subst hc
    have : n = 0 := by omega
    subst this
    exact .inl ⟨rfl, _, rfl⟩
  · exact .inr ⟨g, cap, cur, by omega, rfl, hg, h1, h2, h3, h4⟩
theorem blkOf_slice {a : Addr} {n cap : Nat} (h : 0 < cap) : blkOf (.slice (some a) n cap) = some a.block := by
  cases cap with
  | zero => omega
  | succ c => rfl
theorem blkOf_none {a : Option Addr} {n : Nat} : blkOf (.slice a n 0) = none := by cases a <;> rfl
theorem rowR_cells {w : World} {e : TypeId} {size : Nat} {v : Value} {n : Nat} {xs : List Value} (h : RowR w e size v n xs) {g : Nat} (hg : blkOf v = some g) : ∀ j u, xs[j]? = some u → w.cell? ⟨g, j, none⟩ = some u := by
  intro j u hu
  rcases h.2 with ⟨_, a, rfl⟩ | ⟨g', cap, cur, hc, rfl, hb, h1, h2, h3, h4⟩
  · rw [blkOf_none] at hg; cases hg
  · rw [blkOf_slice hc] at hg
    simp only [Option.some.injEq] at hg
    subst hg
    rw [← h4] at hu
    have hj := (List.getElem?_eq_some_iff.1 hu).1
    rw [List.getElem?_take_of_lt (by simp at hj; omega)] at hu
    simp only [World.cell?, hb]
    simpa using hu

/-- Rows that are the call's own, one for each place. -/
structure famRep (x : Rx) (e : TypeId) (t : Ty) (xss : List (List t.den)) (vs : List Value) : Prop where
  len : vs.length = xss.length
  row : ∀ (i : Nat) xs v, xss[i]? = some xs → vs[i]? = some v → v.oneCell' = true ∧ ∃ flat, RowR x.w e t.n v xs.length flat ∧ roAll (ro x.w x.O t) xs flat
  inj : ∀ (i j : Nat) u v b, vs[i]? = some u → vs[j]? = some v → blkOf u = some b → blkOf v = some b → i = j
/-- A map whose values are the rows of a family; the entry at one place may have lent its row. -/
structure mapgRep (x : Rx) (kt : Ty) (ka : Bool) (hole : Option Nat) (ks : List kt.den) (es : List MapEntry) (vs : List Value) : Prop where
  len : es.length = ks.length
  lenv : vs.length = ks.length
  at_ : ∀ (i : Nat) k en v, ks[i]? = some k → es[i]? = some en → vs[i]? = some v → en.born = i ∧ (hole ≠ some i → en.val = v) ∧ ∃ kvs, en.key = mkV ka kvs ∧ ro x.w x.O kt k kvs
def repB (x : Rx) (id : Nat) : Blk → Prop
  | .fam e t xss => ∃ f vs, x.σ id = .func f #[] vs ∧ famRep x e t xss vs.toList
  | .mapg kt ka fid ks hole => ∃ r es f vs, x.σ id = .map (some r) ∧ x.w.heap[r]? = some (.map es ks.length) ∧ ¬ x.N fid ∧ x.σ fid = .func f #[] vs ∧ mapgRep x kt ka hole ks es.toList vs.toList
  | .lenb n => ∃ a c, x.σ id = .slice a n c ∧ n ≤ c ∧ c ≤ maxLen ∧ (a = none → n = 0)
  | .dead => True
  | .cells e cs => ∃ b vs, x.σ id = .pointer (some ⟨b, 0, none⟩) ∧ x.w.heap[b]? = some (.cells vs.toArray e (0, 0)) ∧ repCs x cs vs ∧ oneAll vs
  | .row e t xs => ∃ n flat, n = xs.length ∧ RowR x.w e t.n (x.σ id) n flat ∧ roAll (ro x.w x.O t) xs flat
  | .settled t xs => ro x.w x.O (.sl t) xs [x.σ id]
  | .mapb kt vt ka va l => ∃ r es clock, x.σ id = .map (some r) ∧ x.w.heap[r]? = some (.map es clock) ∧ mapRep x kt vt ka va l es.toList

structure Rx.Keeps (x y : Rx) : Prop where
  k : Keep x.w y.w x.O y.O
  σ : ∀ id, ¬ x.N id → y.σ id = x.σ id
  N : ∀ id, y.N id → x.N id

mutual
theorem repC_keep {x y : Rx} (h : x.Keeps y) : ∀ (c : C1) (v : Value), repC x c v → repC y c v
  | .undef, _, _ => by unfold repC; trivial
  | .nilsl, _, k => by unfold repC at *; exact k
  | .nilp, _, k => by unfold repC at *; exact k
  | .nilfn, _, k => by unfold repC at *; exact k
  | .int _ _, _, k => by unfold repC at *; exact k
  | .bool _, _, k => by unfold repC at *; exact k
  | .str _, _, k => by unfold repC at *; exact k
  | .sl t xs cp, v, k => by unfold repC at *; exact ⟨ro_keep h.k _ _ _ k.1, k.2⟩
  | .row id, v, k => by unfold repC at *; exact ⟨fun hn => k.1 (h.N _ hn), by rw [h.σ id k.1]; exact k.2⟩
  | .win id sz lo len, v, k => by
    unfold repC at *
    obtain ⟨k1, k2⟩ := k
    exact ⟨fun hn => k1 (h.N _ hn), by rw [h.σ id k1]; exact k2⟩
  | .loc id off, v, k => by
    unfold repC at *
    obtain ⟨k1, k2⟩ := k
    exact ⟨fun hn => k1 (h.N _ hn), by rw [h.σ id k1]; exact k2⟩
  | .rp t y off, v, k => by
    unfold repC at *
    obtain ⟨b, o, vs, e, k1, k2⟩ := k
    exact ⟨b, o, vs, e, ro_keep h.k _ _ _ k1, k2.keep h.k⟩
  | .ep id sz i off, v, k => by
    unfold repC at *
    obtain ⟨k1, k2⟩ := k
    exact ⟨fun hn => k1 (h.N _ hn), by rw [h.σ id k1]; exact k2⟩
  | .map id, v, k => by unfold repC at *; exact ⟨fun hn => k.1 (h.N _ hn), by rw [h.σ id k.1]; exact k.2⟩
  | .fn f caps, v, k => by
    unfold repC at *
    obtain ⟨vs, e, k1⟩ := k
    exact ⟨vs, e, repCs_keep h caps vs k1⟩
theorem repCs_keep {x y : Rx} (h : x.Keeps y) : ∀ (cs : List C1) (vs : List Value), repCs x cs vs → repCs y cs vs
  | [], vs, k => by unfold repCs at *; exact k
  | c :: cs, vs, k => by
    unfold repCs at *
    obtain ⟨v, r, e, k1, k2⟩ := k
    exact ⟨v, r, e, repC_keep h c v k1, repCs_keep h cs r k2⟩
end

mutual
theorem repA_keep {x y : Rx} (h : x.Keeps y) : ∀ (a : AV) (v : Value), repA x a v → repA y a v
  | .one c, v, k => by unfold repA at *; exact repC_keep h c v k
  | .agg cs, v, k => by
    unfold repA at *
    obtain ⟨vs, e, k1⟩ := k
    exact ⟨vs, e, repCs_keep h cs _ k1⟩
  | .tup as, v, k => by
    unfold repA at *
    obtain ⟨vs, e, k1⟩ := k
    exact ⟨vs, e, repAs_keep h as _ k1⟩
  | .ifd c a, v, k => by
    unfold repA at *
    exact ⟨fun hc => repA_keep h a v (k.1 hc), k.2⟩
theorem repAs_keep {x y : Rx} (h : x.Keeps y) : ∀ (as : List AV) (vs : List Value), repAs x as vs → repAs y as vs
  | [], vs, k => by unfold repAs at *; exact k
  | a :: as, vs, k => by
    unfold repAs at *
    obtain ⟨v, r, e, k1, k2⟩ := k
    exact ⟨v, r, e, repA_keep h a v k1, repAs_keep h as r k2⟩
end

theorem mapRep_keep {x y : Rx} (h : x.Keeps y) {kt vt : Ty} {ka va : Bool} : ∀ (l : List (kt.den × vt.den)) (es : List MapEntry), mapRep x kt vt ka va l es → mapRep y kt vt ka va l es
  | [], _, k => k
  | _ :: l, _, ⟨e, r, ks, vs, he, e1, k1, e2, k2, k3⟩ => ⟨e, r, ks, vs, he, e1, ro_keep h.k _ _ _ k1, e2, ro_keep h.k _ _ _ k2, mapRep_keep h l r k3⟩

theorem rowR_of_block {w w' : World} {e : TypeId} {s : Nat} {v : Value} {n : Nat} {xs : List Value} (h : RowR w e s v n xs)
    (hb : ∀ g, blkOf v = some g → w'.heap[g]? = w.heap[g]?) : RowR w' e s v n xs := by
  obtain ⟨h1, h2⟩ := h
  refine ⟨h1, h2.imp id ?_⟩
  rintro ⟨g, cap, cur, hc, rfl, h4, h5⟩
  exact ⟨g, cap, cur, hc, rfl, by rw [hb g (blkOf_slice hc)]; exact h4, h5⟩

theorem famRep_keep {x y : Rx} (h : x.Keeps y) {e : TypeId} {t : Ty} {xss : List (List t.den)} {vs : List Value} (k : famRep x e t xss vs) (hb : ∀ u ∈ vs, ∀ b, blkOf u = some b → y.w.heap[b]? = x.w.heap[b]?) : famRep y e t xss vs where
  len := k.len
  row := fun i xs v h1 h2 => by
    obtain ⟨k1, flat, k2, k3⟩ := k.row i xs v h1 h2
    exact ⟨k1, flat, rowR_of_block k2 (hb v (List.mem_of_getElem? h2)), roAll_mono (ro_keep h.k t) _ _ k3⟩
  inj := k.inj
theorem mapgRep_keep {x y : Rx} (h : x.Keeps y) {kt : Ty} {ka : Bool} {hole : Option Nat} {ks : List kt.den} {es : List MapEntry} {vs : List Value} (k : mapgRep x kt ka hole ks es vs) : mapgRep y kt ka hole ks es vs where
  len := k.len
  lenv := k.lenv
  at_ := fun i a en v h1 h2 h3 => by
    obtain ⟨k1, k2, kvs, k3, k4⟩ := k.at_ i a en v h1 h2 h3
    exact ⟨k1, k2, kvs, k3, ro_keep h.k _ _ _ k4⟩
theorem famRep_lt {x : Rx} {e : TypeId} {t : Ty} {xss : List (List t.den)} {vs : List Value} (k : famRep x e t xss vs) : ∀ u ∈ vs, ∀ b, blkOf u = some b → b < x.w.heap.size := by
  intro u hu b hb
  obtain ⟨i, hi, rfl⟩ := List.getElem_of_mem hu
  have hi2 : i < xss.length := by rw [← k.len]; exact hi
  obtain ⟨_, flat, k2, _⟩ := k.row i xss[i] vs[i] (List.getElem?_eq_getElem hi2) (List.getElem?_eq_getElem hi)
  rcases k2.2 with ⟨_, a, e2⟩ | ⟨g, cap, cur, hc, e2, hg, _⟩
  · rw [e2, blkOf_none] at hb; cases hb
  · rw [e2, blkOf_slice hc] at hb; simp only [Option.some.injEq] at hb; subst hb
    exact (Array.getElem?_eq_some_iff.1 hg).1
/-- A block that stays as it is. -/
theorem repB_keep {x y : Rx} (h : x.Keeps y) {id : Nat} (hid : ¬ x.N id) : ∀ (B : Blk), repB x id B →
    (own B = true → ∀ b, hb (x.σ id) b → y.w.heap[b]? = x.w.heap[b]?) → repB y id B
  | .dead, _, _ => trivial
  | .cells e cs, ⟨b, vs, e1, e2, k, k1⟩, hb => ⟨b, vs, by rw [h.σ id hid]; exact e1, by rw [hb rfl b (by rw [e1]; exact .inl rfl)]; exact e2, repCs_keep h cs vs k, k1⟩
  | .row e t xs, ⟨n, flat, e1, k, k1⟩, hb => ⟨n, flat, e1, by rw [h.σ id hid]; exact rowR_of_block k (fun g hg => hb rfl g (.inl hg)), roAll_mono (ro_keep h.k t) _ _ k1⟩
  | .settled t xs, k, _ => by unfold repB at *; rw [h.σ id hid]; exact ro_keep h.k _ _ _ k
  | .mapb kt vt ka va l, ⟨r, es, cl, e1, e2, k⟩, hb => ⟨r, es, cl, by rw [h.σ id hid]; exact e1, by rw [hb rfl r (by rw [e1]; exact .inl rfl)]; exact e2, mapRep_keep h l _ k⟩
  | .fam e t xss, ⟨f, vs, e1, k1⟩, hb => ⟨f, vs, by rw [h.σ id hid]; exact e1, famRep_keep h k1 (fun u hu b hbu => hb rfl b (by rw [e1]; exact hb_fam.2 ⟨u, hu, hbu⟩))⟩
  | .mapg kt ka fid ks hole, ⟨r, es, f, vs, e1, e2, e3, e4, k⟩, hb => ⟨r, es, f, vs, by rw [h.σ id hid]; exact e1, by rw [hb rfl r (by rw [e1]; exact .inl rfl)]; exact e2, fun hn => e3 (h.N _ hn), by rw [h.σ fid e3]; exact e4, mapgRep_keep h k⟩
  | .lenb n, ⟨a, c, e1, k⟩, _ => ⟨a, c, by rw [h.σ id hid]; exact e1, k⟩

theorem repB_lt {x : Rx} {id : Nat} : ∀ {B : Blk}, repB x id B → own B = true → ∀ b, hb (x.σ id) b → b < x.w.heap.size
  | .cells e cs, ⟨b, vs, e1, e2, _⟩, _, b', hb => by
    rw [e1, hb_ptr] at hb; simp [blkOf] at hb; subst hb
    exact (Array.getElem?_eq_some_iff.1 e2).1
  | .row e t xs, ⟨n, flat, _, k, _⟩, _, b', hb => by
    rcases k.2 with ⟨_, a, e1⟩ | ⟨g, cap, cur, hc, e1, hg, _⟩
    · rw [e1, hb_slice, blkOf_none] at hb; cases hb
    · rw [e1, hb_slice, blkOf_slice hc] at hb; simp only [Option.some.injEq] at hb; subst hb
      exact (Array.getElem?_eq_some_iff.1 hg).1
  | .mapb kt vt ka va l, ⟨r, es, cl, e1, e2, _⟩, _, b', hb => by
    rw [e1, hb_map] at hb; simp [blkOf] at hb; subst hb
    exact (Array.getElem?_eq_some_iff.1 e2).1
  | .fam e t xss, ⟨f, vs, e1, k1⟩, _, b', hb => by
    rw [e1, hb_fam] at hb
    obtain ⟨u, hu, hbu⟩ := hb
    exact famRep_lt k1 u hu b' hbu
  | .mapg kt ka fid ks hole, ⟨r, es, f, vs, e1, e2, _⟩, _, b', hb => by
    rw [e1, hb_map] at hb; simp [blkOf] at hb; subst hb
    exact (Array.getElem?_eq_some_iff.1 e2).1

/-- Only the call's own blocks, and those that it may write, have turned since it began. -/
structure Evo (cx : Cx) (w : World) : Prop where
  os : w.os = cx.w0.os
  tape : w.tape = cx.w0.tape
  output : w.output = cx.w0.output
  drawn : cx.w0.drawn ≤ w.drawn
  size : cx.w0.heap.size ≤ w.heap.size
  block : ∀ b, b < cx.w0.heap.size → ¬ cx.Mu b → w.heap[b]? = cx.w0.heap[b]?

def rx (cx : Cx) (σ : Nat → Value) (N : Nat → Prop) (m : Mem) (w : World) : Rx := ⟨w, Owned cx σ m, σ, N⟩

structure RepM (cx : Cx) (σ : Nat → Value) (N : Nat → Prop) (m : Mem) (w : World) : Prop where
  blk : ∀ id, repB (rx cx σ N m w) id (m id)
  fresh : ∀ id, N id → m id = .dead
  inj : ∀ id id' b, own (m id) = true → own (m id') = true → hb (σ id) b → hb (σ id') b → id = id'
  notF : ∀ id b, own (m id) = true → hb (σ id) b → ¬ cx.F b
  low : ∀ id b, own (m id) = true → hb (σ id) b → cx.w0.heap.size ≤ b ∨ cx.Mu b
  evo : Evo cx w
  hF : ∀ b, cx.F b → b < w.heap.size
  hone : ∀ id, (σ id).oneCell' = true
  fix : ∀ i, i < cx.np → ¬ N i ∧ σ i = cx.arg i

/-- THE STEP: some ids are touched; all else stays. -/
theorem RepM.step {cx : Cx} {σ σ' : Nat → Value} {N N' : Nat → Prop} {m m' : Mem} {w w' : World} (h : RepM cx σ N m w) (tch : Nat → Prop)
    (hN : ∀ id, N' id → N id) (hfr : ∀ id, N' id → m' id = .dead)
    (hm : ∀ id, ¬ tch id → m' id = m id ∧ σ' id = σ id) (hσ : ∀ id, ¬ N id → σ' id = σ id)
    (hw : ∀ b, b < w.heap.size → (∀ id, tch id → own (m id) = true → ¬ hb (σ id) b) → w'.heap[b]? = w.heap[b]?)
    (hsz : w.heap.size ≤ w'.heap.size ∧ w.drawn ≤ w'.drawn) (hos : w'.os = w.os) (htape : w'.tape = w.tape) (hout : w'.output = w.output)
    (hown : ∀ id b, tch id → own (m' id) = true → hb (σ' id) b → w.heap.size ≤ b ∨ ∃ i, tch i ∧ own (m i) = true ∧ hb (σ i) b)
    (hinj : ∀ id id' b, tch id → tch id' → own (m' id) = true → own (m' id') = true → hb (σ' id) b → hb (σ' id') b → id = id')
    (hone : ∀ id, tch id → (σ' id).oneCell' = true)
    (hrep : Rx.Keeps (rx cx σ N m w) (rx cx σ' N' m' w') → ∀ id, tch id → repB (rx cx σ' N' m' w') id (m' id)) :
    RepM cx σ' N' m' w' ∧ Rx.Keeps (rx cx σ N m w) (rx cx σ' N' m' w') := by
  have lt : ∀ id b, own (m id) = true → hb (σ id) b → b < w.heap.size := fun id b ho hb => repB_lt (h.blk id) ho b hb
  have hO : ∀ b, b < w.heap.size → Owned cx σ' m' b → Owned cx σ m b := by
    rintro b hb (hf | ⟨id, ho, hbl⟩)
    · exact .inl hf
    · by_cases ht : tch id
      · rcases hown id b ht ho hbl with h1 | ⟨i, _, h2, h3⟩
        · omega
        · exact .inr ⟨i, h2, h3⟩
      · obtain ⟨e1, e2⟩ := hm id ht
        exact .inr ⟨id, by rw [← e1]; exact ho, by rw [← e2]; exact hbl⟩
  have hK : Rx.Keeps (rx cx σ N m w) (rx cx σ' N' m' w') :=
    ⟨⟨fun b hb hno => ⟨fun ho => hno (hO b hb ho), hw b hb fun id _ ho hbl => hno (.inr ⟨id, ho, hbl⟩)⟩⟩, hσ, hN⟩
  refine ⟨⟨fun id => ?_, hfr, fun id id' b ho ho' hb hb' => ?_, fun id b ho hb => ?_, fun id b ho hb => ?_, ?_, fun b hb => Nat.lt_of_lt_of_le (h.hF b hb) hsz.1, fun id => ?_, fun i hi => ⟨fun hn => (h.fix i hi).1 (hN i hn), (hσ i (h.fix i hi).1).trans (h.fix i hi).2⟩⟩, hK⟩
  · by_cases ht : tch id
    · exact hrep hK id ht
    · obtain ⟨e1, e2⟩ := hm id ht
      rw [e1]
      by_cases hn : N id
      · rw [h.fresh id hn]; trivial
      · refine repB_keep hK hn _ (h.blk id) fun ho b hb => hw b (lt id b ho hb) fun i hti hoi hbi => ht ?_
        rw [h.inj id i b ho hoi hb hbi]; exact hti
  · by_cases ht : tch id <;> by_cases ht' : tch id'
    · exact hinj id id' b ht ht' ho ho' hb hb'
    · obtain ⟨e1, e2⟩ := hm id' ht'
      rw [e1] at ho'; rw [e2] at hb'
      rcases hown id b ht ho hb with h1 | ⟨i, hi, h2, h3⟩
      · have := lt id' b ho' hb'; omega
      · exact absurd (h.inj id' i b ho' h2 hb' h3 ▸ hi) ht'
    · obtain ⟨e1, e2⟩ := hm id ht
      rw [e1] at ho; rw [e2] at hb
      rcases hown id' b ht' ho' hb' with h1 | ⟨i, hi, h2, h3⟩
      · have := lt id b ho hb; omega
      · exact absurd (h.inj id i b ho h2 hb h3 ▸ hi) ht
    · obtain ⟨e1, e2⟩ := hm id ht
      obtain ⟨e3, e4⟩ := hm id' ht'
      rw [e1] at ho; rw [e2] at hb; rw [e3] at ho'; rw [e4] at hb'
      exact h.inj id id' b ho ho' hb hb'
  · by_cases ht : tch id
    · rcases hown id b ht ho hb with h1 | ⟨i, _, h2, h3⟩
      · intro hf; have := h.hF b hf; omega
      · exact h.notF i b h2 h3
    · obtain ⟨e1, e2⟩ := hm id ht
      rw [e1] at ho; rw [e2] at hb
      exact h.notF id b ho hb
  · by_cases ht : tch id
    · rcases hown id b ht ho hb with h1 | ⟨i, _, h2, h3⟩
      · have := h.evo.size; exact .inl (by omega)
      · exact h.low i b h2 h3
    · obtain ⟨e1, e2⟩ := hm id ht
      rw [e1] at ho; rw [e2] at hb
      exact h.low id b ho hb
  · refine ⟨hos.trans h.evo.os, htape.trans h.evo.tape, hout.trans h.evo.output, Nat.le_trans h.evo.drawn hsz.2, Nat.le_trans h.evo.size hsz.1, fun b hb hmu => ?_⟩
    rw [hw b (by have := h.evo.size; omega) fun id _ ho hbl => ?_]
    · exact h.evo.block b hb hmu
    · rcases h.low id b ho hbl with h1 | h1
      · omega
      · exact hmu h1
  · by_cases ht : tch id
    · exact hone id ht
    · rw [(hm id ht).2]; exact h.hone id

end Go.Ev

/- Cells and values: reading, writing, turning rows into plain data. -/
namespace Go.Ev

/-! ### lists of cells -/

theorem repCs_nil {x : Rx} {vs : List Value} : repCs x [] vs ↔ vs = [] := by unfold repCs; rfl
theorem repCs_cons {x : Rx} {c : C1} {cs : List C1} {vs : List Value} : repCs x (c :: cs) vs ↔ ∃ v r, vs = v :: r ∧ repC x c v ∧ repCs x cs r := by
  rw [repCs]

theorem repCs_len {x : Rx} : ∀ (cs : List C1) (vs : List Value), repCs x cs vs → vs.length = cs.length
  | [], _, h => by rw [repCs_nil.1 h]; rfl
  | _ :: cs, _, h => by
    obtain ⟨v, r, rfl, _, h2⟩ := repCs_cons.1 h
    simp [repCs_len cs r h2]

theorem repCs_append {x : Rx} : ∀ (cs ds : List C1) (vs us : List Value), repCs x cs vs → repCs x ds us → repCs x (cs ++ ds) (vs ++ us)
  | [], _, _, _, h, k => by rw [repCs_nil.1 h]; exact k
  | _ :: cs, ds, _, us, h, k => by
    obtain ⟨v, r, rfl, h1, h2⟩ := repCs_cons.1 h
    exact repCs_cons.2 ⟨v, r ++ us, rfl, h1, repCs_append cs ds r us h2 k⟩

theorem repCs_take {x : Rx} : ∀ (n : Nat) (cs : List C1) (vs : List Value), repCs x cs vs → repCs x (cs.take n) (vs.take n)
  | 0, _, _, _ => by simp [repCs_nil]
  | _ + 1, [], _, h => by rw [repCs_nil.1 h]; simp [repCs_nil]
  | n + 1, _ :: cs, _, h => by
    obtain ⟨v, r, rfl, h1, h2⟩ := repCs_cons.1 h
    exact repCs_cons.2 ⟨v, r.take n, rfl, h1, repCs_take n cs r h2⟩

theorem repCs_drop {x : Rx} : ∀ (n : Nat) (cs : List C1) (vs : List Value), repCs x cs vs → repCs x (cs.drop n) (vs.drop n)
  | 0, _, _, h => by simpa using h
  | _ + 1, [], _, h => by rw [repCs_nil.1 h]; simp [repCs_nil]
  | n + 1, _ :: cs, _, h => by
    obtain ⟨v, r, rfl, h1, h2⟩ := repCs_cons.1 h
    simpa using repCs_drop n cs r h2

theorem repCs_mem {x : Rx} : ∀ (cs : List C1) (vs : List Value), repCs x cs vs → ∀ c ∈ cs, ∃ v, repC x c v
  | c :: cs, _, h, d, hd => by
    obtain ⟨v, r, rfl, h1, h2⟩ := repCs_cons.1 h
    cases List.mem_cons.1 hd with
    | inl e => exact ⟨v, e ▸ h1⟩
    | inr e => exact repCs_mem cs r h2 d e

theorem repCs_over {x : Rx} {cs ds : List C1} {vs us : List Value} {off : Nat} (h : repCs x cs vs) (k : repCs x ds us) :
    repCs x (overC cs off ds) (vs.take off ++ us ++ vs.drop (off + us.length)) := by
  unfold overC
  rw [repCs_len _ _ k]
  exact repCs_append _ _ _ _ (repCs_append _ _ _ _ (repCs_take off cs vs h) k) (repCs_drop _ cs vs h)

theorem repC_one {x : Rx} {c : C1} {v : Value} (hk : known c = true) (h : repC x c v) (hσ : ∀ id, ¬ x.N id → (x.σ id).oneCell' = true) : v.oneCell' = true := by
  cases c <;> simp only [repC] at h <;> first
    | (simp [known] at hk; done)
    | (rw [h]; rfl)
    | (rw [h.1]; rfl)
    | (obtain ⟨⟨a, len, cap, e, _⟩, _⟩ := h; simp at e; rw [e]; rfl)
    | (rw [h.2]; exact hσ _ h.1)
    | (obtain ⟨_, a, n, c, a', _, _, _, e, _⟩ := h; rw [e]; rfl)
    | (obtain ⟨_, b, _, e⟩ := h; rw [e]; rfl)
    | (obtain ⟨b, o, vs, e, _⟩ := h; rw [e]; rfl)
    | (obtain ⟨_, b, n, c, _, e⟩ := h; rw [e]; rfl)
    | (obtain ⟨vs, e, _⟩ := h; rw [e]; rfl)

/-! ### typed values and their cells -/

theorem expl_len : ∀ (t : Ty) (y : t.den), (expl t y).length = t.n
  | .int _, _ => rfl
  | .bool, _ => rfl
  | .str, _ => rfl
  | .unit, _ => rfl
  | .sl _, _ => rfl
  | .pair a b, p => by simp [expl, Ty.n, expl_len a p.1, expl_len b p.2]

theorem expl_rep {x : Rx} : ∀ (t : Ty) (y : t.den) (vs : List Value), ro x.w x.O t y vs → repCs x (expl t y) vs
  | .int k, n, vs, h => by rw [h.1]; exact repCs_cons.2 ⟨_, _, rfl, by unfold repC; exact ⟨rfl, h.2⟩, repCs_nil.2 rfl⟩
  | .bool, b, vs, h => by rw [show _ = _ from h]; exact repCs_cons.2 ⟨_, _, rfl, by unfold repC; rfl, repCs_nil.2 rfl⟩
  | .str, s, vs, h => by rw [h.1]; exact repCs_cons.2 ⟨_, _, rfl, by unfold repC; exact ⟨rfl, h.2⟩, repCs_nil.2 rfl⟩
  | .unit, _, vs, h => by rw [show _ = _ from h]; exact repCs_nil.2 rfl
  | .sl t, xs, vs, h => by
    have h' := h
    obtain ⟨a, len, cap, e, _⟩ := h'
    subst e
    exact repCs_cons.2 ⟨_, _, rfl, by unfold repC; exact ⟨h, by simp⟩, repCs_nil.2 rfl⟩
  | .pair a b, p, vs, ⟨c, d, e, h1, h2⟩ => by rw [e]; exact repCs_append _ _ _ _ (expl_rep a p.1 c h1) (expl_rep b p.2 d h2)

theorem castTy_eq {t u : Ty} {xs : List t.den} {ys : List u.den} (h : castTy t u xs = some ys) : ∃ e : t = u, ys = e ▸ xs := by
  unfold castTy at h
  split at h
  · rename_i e; exact ⟨e, (Option.some.inj h).symm⟩
  · cases h

theorem castTy_self (t : Ty) (xs : List t.den) : castTy t t xs = some xs := by simp [castTy]

theorem CellsAt.sub {w : World} {O : Nat → Prop} {b o : Nat} {pre vs post : List Value} (h : CellsAt w O b o (pre ++ (vs ++ post))) : CellsAt w O b (o + pre.length) vs := by
  intro j u hu
  have hj : j < vs.length := (List.getElem?_eq_some_iff.1 hu).1
  have := h (pre.length + j) u (by rw [List.getElem?_append_right (by omega), Nat.add_sub_cancel_left, List.getElem?_append_left hj]; exact hu)
  rwa [← Nat.add_assoc] at this

/-- A part of plain data is plain data. -/
theorem ro_sub {w : World} {O : Nat → Prop} {t : Ty} {xs : List t.den} {a : Option Addr} {len cap : Nat} (h : ro w O (.sl t) xs [.slice a len cap]) {l hi : Nat} (h1 : l ≤ hi) (h2 : hi ≤ xs.length) (mx : Nat) (h3 : hi ≤ mx) (h4 : mx ≤ cap) (s : Nat) (hs : s = t.n) :
    ro w O (.sl t) ((xs.take hi).drop l) [sliced a l hi mx s] := by
  subst hs
  obtain ⟨a', len', cap', e1, e2, e3, e4, e5⟩ := h
  simp at e1
  obtain ⟨rfl, rfl, rfl⟩ := e1
  have hlen : ((xs.take hi).drop l).length = hi - l := by simp; omega
  unfold sliced
  refine ⟨_, hi - l, mx - l, rfl, hlen.symm, by omega, by omega, ?_⟩
  rcases e5 with e6 | ⟨b, q, flat, rfl, e7, e8⟩
  · exact .inl (by omega)
  · have hx : xs = xs.take l ++ ((xs.take hi).drop l ++ xs.drop hi) := by
      have e1 : xs.take l = (xs.take hi).take l := by rw [List.take_take, Nat.min_eq_left h1]
      rw [e1, ← List.append_assoc, List.take_append_drop, List.take_append_drop]
    obtain ⟨pre, rest, hf, hp1, hp2⟩ := roAll_split _ _ flat (hx ▸ e7)
    obtain ⟨vs, post, hf2, hv, _⟩ := roAll_split _ _ rest hp2
    subst hf2
    subst hf
    have hpl : pre.length = l * t.n := by
      rw [roAll_len (fun x c => ro_len t x c) _ _ hp1, List.length_take, Nat.min_eq_left (by omega)]
    by_cases hm : mx = l
    · subst hm
      refine .inr ⟨b, q, vs, by simp, hv, ?_⟩
      have : hi - mx = 0 := by omega
      have hvs : vs = [] := List.eq_nil_of_length_eq_zero (by rw [roAll_len (fun x c => ro_len t x c) _ _ hv, hlen, this, Nat.zero_mul])
      subst hvs
      intro j u hu
      simp at hu
    · refine .inr ⟨b, q + l * t.n, vs, by rw [if_neg hm]; simp [add_none], hv, ?_⟩
      have := e8.sub
      rwa [hpl] at this

/-- What lies between two places. -/
theorem roAll_mid {α : Type} {r : α → List Value → Prop} {n : Nat} (hn : ∀ x c, r x c → c.length = n) {xs : List α} {flat : List Value} (h : roAll r xs flat) {l hi : Nat} (h1 : l ≤ hi) (h2 : hi ≤ xs.length) :
    ∃ pre vs post, flat = pre ++ (vs ++ post) ∧ pre.length = l * n ∧ roAll r (xs.take l) pre ∧ roAll r ((xs.take hi).drop l) vs ∧ roAll r (xs.drop hi) post := by
  have hx : xs = xs.take l ++ ((xs.take hi).drop l ++ xs.drop hi) := by
    have e1 : xs.take l = (xs.take hi).take l := by rw [List.take_take, Nat.min_eq_left h1]
    rw [e1, ← List.append_assoc, List.take_append_drop, List.take_append_drop]
  obtain ⟨pre, rest, hf, hp1, hp2⟩ := roAll_split _ _ flat (hx ▸ h)
  obtain ⟨vs, post, hf2, hv, hp⟩ := roAll_split _ _ rest hp2
  exact ⟨pre, vs, post, by rw [hf, hf2], by rw [roAll_len hn _ _ hp1, List.length_take, Nat.min_eq_left (by omega)], hp1, hv, hp⟩

/-- A row's slice and its cells. -/
theorem row_read {cx : Cx} {σ : Nat → Value} {N : Nat → Prop} {m : Mem} {w : World} {id : Nat} {e : TypeId} {t : Ty} {xs : List t.den} (h : repB (rx cx σ N m w) id (.row e t xs)) :
    ∃ a cap flat, σ id = .slice a xs.length cap ∧ xs.length ≤ cap ∧ cap ≤ maxLen ∧ roAll (ro w (Owned cx σ m) t) xs flat ∧
      ((cap = 0 ∧ xs = [] ∧ flat = []) ∨ ∃ b, a = some ⟨b, 0, none⟩ ∧ blkOf (σ id) = some b ∧ ∀ j u, flat[j]? = some u → w.cell? ⟨b, j, none⟩ = some u) := by
  obtain ⟨n, flat, rfl, k, k1⟩ := h
  simp only [rx] at k k1
  rcases k.2 with ⟨e2, a, e1⟩ | ⟨g, cap, cur, hc, e1, hg, h1, h2, h3, h4⟩
  · have hx : xs = [] := List.eq_nil_of_length_eq_zero e2
    subst hx
    rw [show flat = [] from k1] at k
    exact ⟨a, 0, [], e1, Nat.le_refl _, by simp [maxLen], rfl, .inl ⟨rfl, rfl, rfl⟩⟩
  · exact ⟨_, cap, flat, e1, h1, h2, k1, .inr ⟨g, rfl, by rw [e1]; exact blkOf_slice hc, fun j u hu => rowR_cells k (by rw [e1]; exact blkOf_slice hc) j u hu⟩⟩

/-- A window's value, out of the slice that it is a part of. -/
theorem win_read {x : Rx} {id sz lo len : Nat} {v : Value} (h : repC x (.win id sz lo len) v) {a : Option Addr} {n c : Nat} (hs : x.σ id = .slice a n c) :
    lo + len ≤ n ∧ n ≤ c ∧ ∃ a', v = .slice a' len (c - lo) ∧ (lo < c → ∃ b, a = some ⟨b, 0, none⟩ ∧ a' = some ⟨b, lo * sz, none⟩) := by
  unfold repC at h
  obtain ⟨_, a0, n0, c0, a', h1, h2, h3, h4, h5⟩ := h
  rw [hs] at h1
  simp only [Value.slice.injEq] at h1
  obtain ⟨rfl, rfl, rfl⟩ := h1
  exact ⟨h2, h3, a', h4, h5⟩

/-- A window of plain data is plain data. -/
theorem win_ro {x : Rx} {w : World} {O : Nat → Prop} {t : Ty} {xs : List t.den} {id lo len : Nat} {v : Value} (h : ro w O (.sl t) xs [x.σ id]) (k : repC x (.win id t.n lo len) v) (hl : lo + len ≤ xs.length) :
    ro w O (.sl t) ((xs.take (lo + len)).drop lo) [v] := by
  have h' := h
  obtain ⟨a, n, c, e1, e2, e3, e4, e5⟩ := h
  simp only [List.cons.injEq, and_true] at e1
  obtain ⟨g1, g2, a', g3, g4⟩ := win_read k e1
  have hlen : ((xs.take (lo + len)).drop lo).length = len := by simp; omega
  subst g3
  refine ⟨a', len, c - lo, rfl, hlen.symm, by omega, by omega, ?_⟩
  by_cases hc : lo < c
  · obtain ⟨b, rfl, rfl⟩ := g4 hc
    rcases e5 with e6 | ⟨b', o, flat, e7, e8, e9⟩
    · omega
    · simp only [Option.some.injEq, Addr.mk.injEq, and_true] at e7
      obtain ⟨rfl, rfl⟩ := e7
      obtain ⟨pre, vs, post, f1, f2, _, f4, _⟩ := roAll_mid (fun x c => ro_len t x c) e8 (Nat.le_add_right lo len) hl
      subst f1
      refine .inr ⟨b, lo * t.n, vs, rfl, f4, ?_⟩
      have := e9.sub
      rwa [f2, Nat.zero_add] at this
  · exact .inl (by omega)

/-- A list-like cell, read: the slice, its cells. -/
theorem view_read {cx : Cx} {σ : Nat → Value} {N : Nat → Prop} {m : Mem} {w : World} (h : RepM cx σ N m w) {t : Ty} {c : C1} {ys : List t.den} {v : Value}
    (hv : view m t c = some ys) (hc : repC (rx cx σ N m w) c v) :
    ∃ a n cap flat, v = .slice a n cap ∧ n = ys.length ∧ n ≤ cap ∧ cap ≤ maxLen ∧ roAll (ro w (Owned cx σ m) t) ys flat ∧
      ((cap = 0 ∧ flat = []) ∨ ∃ b o, a = some ⟨b, o, none⟩ ∧ ∀ j u, flat[j]? = some u → w.cell? ⟨b, o + j, none⟩ = some u) := by
  have sl : ∀ (xs : List t.den), ro w (Owned cx σ m) (.sl t) xs [v] → ∃ a n cap flat, v = .slice a n cap ∧ n = xs.length ∧ n ≤ cap ∧ cap ≤ maxLen ∧ roAll (ro w (Owned cx σ m) t) xs flat ∧
      ((cap = 0 ∧ flat = []) ∨ ∃ b o, a = some ⟨b, o, none⟩ ∧ ∀ j u, flat[j]? = some u → w.cell? ⟨b, o + j, none⟩ = some u) := by
    rintro xs ⟨a, len, cap, e, h2, h3, h4, h5⟩
    simp at e
    rcases h5 with h7 | ⟨b, o, flat, h6, h7, h8⟩
    · have hx : xs = [] := List.eq_nil_of_length_eq_zero (by omega)
      subst hx
      exact ⟨a, len, cap, [], e, h2, h3, h4, rfl, .inl ⟨h7, rfl⟩⟩
    · exact ⟨a, len, cap, flat, e, h2, h3, h4, h7, .inr ⟨b, o, h6, fun j u hu => (h8 j u hu).2⟩⟩
  cases c with
  | nilsl =>
    simp [view] at hv; subst hv
    unfold repC at hc
    exact ⟨none, 0, 0, [], hc, rfl, Nat.le_refl _, by simp [maxLen], rfl, .inl ⟨rfl, rfl⟩⟩
  | sl u xs cp =>
    simp only [view] at hv
    obtain ⟨e, rfl⟩ := castTy_eq hv
    subst e
    unfold repC at hc
    exact sl _ hc.1
  | row id =>
    simp only [view] at hv
    unfold repC at hc
    obtain ⟨hn, rfl⟩ := hc
    have hb := h.blk id
    cases hm : m id with
    | row e u xs =>
      rw [hm] at hv hb
      simp only [] at hv
      obtain ⟨e', rfl⟩ := castTy_eq hv
      subst e'
      obtain ⟨a, cap, flat, e1, e2, e3, e4, e5⟩ := row_read hb
      rcases e5 with ⟨rfl, rfl, rfl⟩ | ⟨b, rfl, _, e6⟩
      · exact ⟨a, 0, 0, [], e1, rfl, Nat.le_refl _, by simp [maxLen], rfl, .inl ⟨rfl, rfl⟩⟩
      · exact ⟨_, xs.length, cap, flat, e1, rfl, e2, e3, e4, .inr ⟨b, 0, rfl, fun j u hu => by rw [Nat.zero_add]; exact e6 j u hu⟩⟩
    | settled u xs =>
      rw [hm] at hv hb
      simp only [] at hv
      obtain ⟨e', rfl⟩ := castTy_eq hv
      subst e'
      exact sl _ hb
    | dead => rw [hm] at hv; cases hv
    | cells _ _ => rw [hm] at hv; cases hv
    | mapb _ _ _ _ _ => rw [hm] at hv; cases hv
    | fam _ _ _ => rw [hm] at hv; cases hv
    | mapg _ _ _ _ _ => rw [hm] at hv; cases hv
    | lenb _ => rw [hm] at hv; cases hv
  | win id sz lo len =>
    simp only [view] at hv
    have hb := h.blk id
    cases hm : m id with
    | row e u xs =>
      rw [hm] at hv hb
      simp only [] at hv
      split at hv
      · rename_i hc'
        obtain ⟨e', rfl⟩ := castTy_eq hv
        subst e'
        obtain ⟨rfl, hll⟩ := hc'
        obtain ⟨a, cap, flat, e1, e2, e3, e4, e5⟩ := row_read hb
        obtain ⟨g1, g2, a', g3, g4⟩ := win_read hc (by simp only [rx]; exact e1)
        have hlen : ((xs.take (lo + len)).drop lo).length = len := by simp; omega
        subst g3
        obtain ⟨pre, vs, post, f1, f2, _, f4, _⟩ := roAll_mid (fun x c => ro_len u x c) e4 (Nat.le_add_right lo len) hll
        refine ⟨a', len, cap - lo, vs, rfl, hlen.symm, by omega, by omega, f4, ?_⟩
        by_cases hlc : lo < cap
        · obtain ⟨b, rfl, rfl⟩ := g4 hlc
          rcases e5 with ⟨rfl, _⟩ | ⟨b', e7, _, e6⟩
          · omega
          · simp only [Option.some.injEq, Addr.mk.injEq, and_true] at e7
            subst e7
            refine .inr ⟨b, lo * u.n, rfl, fun j q hq => e6 _ q ?_⟩
            have hj := (List.getElem?_eq_some_iff.1 hq).1
            rw [f1, List.getElem?_append_right (by omega), f2, Nat.add_sub_cancel_left, List.getElem?_append_left hj]
            exact hq
        · have h0 : len = 0 := by omega
          subst h0
          exact .inl ⟨by omega, List.eq_nil_of_length_eq_zero (by rw [roAll_len (fun x c => ro_len u x c) _ _ f4, hlen, Nat.zero_mul])⟩
      · cases hv
    | settled u xs =>
      rw [hm] at hv hb
      simp only [] at hv
      split at hv
      · rename_i hc'
        obtain ⟨e', rfl⟩ := castTy_eq hv
        subst e'
        obtain ⟨rfl, hll⟩ := hc'
        exact sl _ (win_ro (x := rx cx σ N m w) hb hc hll)
      · cases hv
    | dead => rw [hm] at hv; cases hv
    | cells _ _ => rw [hm] at hv; cases hv
    | mapb _ _ _ _ _ => rw [hm] at hv; cases hv
    | fam _ _ _ => rw [hm] at hv; cases hv
    | mapg _ _ _ _ _ => rw [hm] at hv; cases hv
    | lenb _ => rw [hm] at hv; cases hv
  | _ => simp [view] at hv

/-- The same, where nothing that is seen is owned. -/
theorem view_ro {cx : Cx} {σ : Nat → Value} {N : Nat → Prop} {m : Mem} {w : World} (h : RepM cx σ N m w) {t : Ty} {c : C1} {ys : List t.den} {v : Value}
    (hv : view m t c = some ys) (hc : repC (rx cx σ N m w) c v) (hno : ∀ id ∈ rowsOf [c], own (m id) = false) : ro w (Owned cx σ m) (.sl t) ys [v] := by
  cases c with
  | nilsl =>
    simp [view] at hv; subst hv
    unfold repC at hc
    exact ⟨none, 0, 0, by rw [hc], rfl, Nat.le_refl _, by simp [maxLen], .inl rfl⟩
  | sl u xs cp =>
    simp only [view] at hv
    obtain ⟨e, rfl⟩ := castTy_eq hv
    subst e
    unfold repC at hc
    exact hc.1
  | row id =>
    simp only [view] at hv
    unfold repC at hc
    obtain ⟨hn, rfl⟩ := hc
    have hb := h.blk id
    have ho := hno id (by simp [rowsOf])
    cases hm : m id with
    | settled u xs =>
      rw [hm] at hv hb
      simp only [] at hv
      obtain ⟨e', rfl⟩ := castTy_eq hv
      subst e'
      exact hb
    | row e u xs => rw [hm] at ho; simp [own] at ho
    | dead => rw [hm] at hv; cases hv
    | cells _ _ => rw [hm] at hv; cases hv
    | mapb _ _ _ _ _ => rw [hm] at hv; cases hv
    | fam _ _ _ => rw [hm] at hv; cases hv
    | mapg _ _ _ _ _ => rw [hm] at hv; cases hv
    | lenb _ => rw [hm] at hv; cases hv
  | win id sz lo len =>
    simp only [view] at hv
    have hb := h.blk id
    have ho := hno id (by simp [rowsOf])
    cases hm : m id with
    | settled u xs =>
      rw [hm] at hv hb
      simp only [] at hv
      split at hv
      · rename_i hc'
        obtain ⟨e', rfl⟩ := castTy_eq hv
        subst e'
        obtain ⟨rfl, hll⟩ := hc'
        exact win_ro (x := rx cx σ N m w) hb hc hll
      · cases hv
    | row e u xs => rw [hm] at ho; simp [own] at ho
    | dead => rw [hm] at hv; cases hv
    | cells _ _ => rw [hm] at hv; cases hv
    | mapb _ _ _ _ _ => rw [hm] at hv; cases hv
    | fam _ _ _ => rw [hm] at hv; cases hv
    | mapg _ _ _ _ _ => rw [hm] at hv; cases hv
    | lenb _ => rw [hm] at hv; cases hv
  | _ => simp [view] at hv

theorem rowsOf_append : ∀ (cs ds : List C1), rowsOf (cs ++ ds) = rowsOf cs ++ rowsOf ds
  | [], _ => rfl
  | c :: cs, ds => by cases c <;> simp [rowsOf, rowsOf_append cs ds]

theorem rowsOf_take_mem {id : Nat} {n : Nat} {cs : List C1} (h : id ∈ rowsOf (cs.take n)) : id ∈ rowsOf cs := by
  rw [← List.take_append_drop n cs, rowsOf_append]; exact List.mem_append_left _ h
theorem rowsOf_drop_mem {id : Nat} {n : Nat} {cs : List C1} (h : id ∈ rowsOf (cs.drop n)) : id ∈ rowsOf cs := by
  rw [← List.take_append_drop n cs, rowsOf_append]; exact List.mem_append_right _ h

theorem implI_some {k : IntKind} {cs : List C1} {n : Int} (h : implI k cs = some n) : cs = [.int k n] := by
  unfold implI at h
  split at h
  · split at h
    · rename_i e; subst e; simp at h; subst h; rfl
    · cases h
  · cases h
theorem implB_some {cs : List C1} {b : Bool} (h : implB cs = some b) : cs = [.bool b] := by
  unfold implB at h
  split at h
  · simp at h; subst h; rfl
  · cases h
theorem implS_some {cs : List C1} {s : ByteArray} (h : implS cs = some s) : cs = [.str s] := by
  unfold implS at h
  split at h
  · simp at h; subst h; rfl
  · cases h
theorem implU_some {cs : List C1} {u : Unit} (h : implU cs = some u) : cs = [] := by
  unfold implU at h
  split at h
  · rfl
  · cases h
theorem implL_some {m : Mem} {t : Ty} {cs : List C1} {ys : List t.den} (h : implL m t cs = some ys) : ∃ c, cs = [c] ∧ view m t c = some ys := by
  unfold implL at h
  split at h
  · exact ⟨_, rfl, h⟩
  · cases h
theorem implP_some {α β : Type} {a : Option α} {b : Option β} {p : α × β} (h : implP a b = some p) : a = some p.1 ∧ b = some p.2 := by
  unfold implP at h
  split at h
  · simp at h; subst h; exact ⟨rfl, rfl⟩
  · cases h

theorem impl_ro {cx : Cx} {σ : Nat → Value} {N : Nat → Prop} {m : Mem} {w : World} (h : RepM cx σ N m w) : ∀ (t : Ty) (cs : List C1) (y : t.den) (vs : List Value),
    impl m t cs = some y → repCs (rx cx σ N m w) cs vs → (∀ id ∈ rowsOf cs, own (m id) = false) → ro w (Owned cx σ m) t y vs
  | .int k, cs, y, vs, hi, hr, _ => by
    rw [implI_some hi] at hr
    obtain ⟨v, r, rfl, h1, h2⟩ := repCs_cons.1 hr
    rw [repCs_nil.1 h2]
    unfold repC at h1
    exact ⟨by rw [h1.1], h1.2⟩
  | .bool, cs, y, vs, hi, hr, _ => by
    rw [implB_some hi] at hr
    obtain ⟨v, r, rfl, h1, h2⟩ := repCs_cons.1 hr
    rw [repCs_nil.1 h2]
    unfold repC at h1
    exact congrArg (fun q => [q]) h1
  | .str, cs, y, vs, hi, hr, _ => by
    rw [implS_some hi] at hr
    obtain ⟨v, r, rfl, h1, h2⟩ := repCs_cons.1 hr
    rw [repCs_nil.1 h2]
    unfold repC at h1
    exact ⟨by rw [h1.1], h1.2⟩
  | .unit, cs, y, vs, hi, hr, _ => by
    rw [implU_some hi] at hr
    exact repCs_nil.1 hr
  | .sl t, cs, y, vs, hi, hr, hno => by
    obtain ⟨c, e, hv⟩ := implL_some hi
    subst e
    obtain ⟨v, r, rfl, h1, h2⟩ := repCs_cons.1 hr
    rw [repCs_nil.1 h2]
    exact view_ro h hv h1 hno
  | .pair a b, cs, y, vs, hi, hr, hno => by
    obtain ⟨hp, hq⟩ := implP_some hi
    have h1 := impl_ro h a _ _ _ hp (repCs_take a.n cs vs hr) (fun id hid => hno id (rowsOf_take_mem hid))
    have h2 := impl_ro h b _ _ _ hq (repCs_drop a.n cs vs hr) (fun id hid => hno id (rowsOf_drop_mem hid))
    exact ⟨_, _, (List.take_append_drop a.n vs).symm, h1, h2⟩

/-! ### updates of the memory's list -/

theorem getL_setL {α : Type} (d : α) (l : List (Nat × α)) (i : Nat) (v : α) (j : Nat) : getL d (setL l i v) j = if i = j then v else getL d l j := by
  induction l with
  | nil => simp [setL, getL]
  | cons p l ih =>
    obtain ⟨k, x⟩ := p
    by_cases hk : k = i
    · subst hk
      simp only [setL, if_true, getL]
      split <;> simp_all
    · simp only [setL, if_neg hk, getL, ih]
      by_cases hkj : k = j
      · subst hkj; simp [Ne.symm hk]
      · simp [hkj]

theorem mem_setMany : ∀ (u l : Heap), mem (setMany l u) = updM (mem l) u
  | [], _ => rfl
  | (k, b) :: u, l => by
    simp only [setMany, updM]
    rw [mem_setMany u]
    congr 1
    funext j
    exact getL_setL _ l k b j

theorem updM_append (m : Mem) : ∀ (a b : Heap), updM m (a ++ b) = updM (updM m a) b
  | [], _ => rfl
  | (k, x) :: a, b => by simp only [List.cons_append, updM]; exact updM_append _ a b

theorem updM_off (m : Mem) : ∀ (u : Heap) (id : Nat), (∀ p ∈ u, p.1 ≠ id) → updM m u id = m id
  | [], _, _ => rfl
  | (k, b) :: u, id, h => by
    simp only [updM]
    rw [updM_off _ u id (fun p hp => h p (List.mem_cons_of_mem _ hp)), if_neg (h (k, b) List.mem_cons_self)]

theorem updM_settle (m0 : Mem) : ∀ (ids : List Nat) (m : Mem) (id : Nat), (∀ i ∈ ids, m i = m0 i ∨ m i = (settle m0 i).2) →
    updM m (ids.map (settle m0)) id = if id ∈ ids then (settle m0 id).2 else m id
  | [], _, _, _ => by simp [updM]
  | i :: ids, m, id, h => by
    simp only [List.map_cons]
    rw [show settle m0 i = (i, (settle m0 i).2) from rfl]
    simp only [updM]
    rw [updM_settle m0 ids _ id (fun j hj => ?_)]
    · by_cases hi : i = id
      · subst hi; simp
      · simp [hi, Ne.symm hi]
    · by_cases hij : i = j
      · subst hij; simp
      · simp only [hij, if_false]; exact h j (List.mem_cons_of_mem _ hj)

theorem settle_not_own (m : Mem) (id : Nat) (h : own (settle m id).2 = true) : own (m id) = true := by
  unfold settle at h
  cases hm : m id <;> simp_all [own]

theorem rows_are {m : Mem} : ∀ (t : Ty) (cs : List C1) (y : t.den), impl m t cs = some y → ∀ id ∈ rowsOf cs, ∃ u xs, m id = .settled u xs ∨ ∃ e, m id = .row e u xs
  | .int k, cs, y, hi, id, hid => by rw [implI_some hi] at hid; simp [rowsOf] at hid
  | .bool, cs, y, hi, id, hid => by rw [implB_some hi] at hid; simp [rowsOf] at hid
  | .str, cs, y, hi, id, hid => by rw [implS_some hi] at hid; simp [rowsOf] at hid
  | .unit, cs, y, hi, id, hid => by rw [implU_some hi] at hid; simp [rowsOf] at hid
  | .sl t, cs, y, hi, id, hid => by
    obtain ⟨c, e, hv⟩ := implL_some hi
    subst e
    cases c <;> simp [rowsOf] at hid <;> subst hid <;> simp only [view] at hv <;>
    · cases hm : m id with
      | row e u xs => exact ⟨u, xs, .inr ⟨e, rfl⟩⟩
      | settled u xs => exact ⟨u, xs, .inl rfl⟩
      | _ => rw [hm] at hv; cases hv
  | .pair a b, cs, y, hi, id, hid => by
    obtain ⟨hp, hq⟩ := implP_some hi
    rw [← List.take_append_drop a.n cs, rowsOf_append, List.mem_append] at hid
    exact hid.elim (rows_are a _ _ hp id) (rows_are b _ _ hq id)

theorem settle_eq (m : Mem) (id : Nat) : (settle m id).2 = match m id with | .row _ t xs => .settled t xs | b => b := rfl

/-- Rows turn into plain data. -/
theorem RepM.settles {cx : Cx} {σ : Nat → Value} {N : Nat → Prop} {m : Mem} {w : World} (h : RepM cx σ N m w) (ids : List Nat) :
    RepM cx σ N (updM m (ids.map (settle m))) w ∧ Rx.Keeps (rx cx σ N m w) (rx cx σ N (updM m (ids.map (settle m))) w) := by
  have hu : ∀ id, updM m (ids.map (settle m)) id = if id ∈ ids then (settle m id).2 else m id := fun id => updM_settle m ids m id (fun i _ => .inl rfl)
  refine h.step (fun id => id ∈ ids) (fun _ h => h) (fun id hn => ?_) (fun id hn => ⟨by rw [hu, if_neg hn], rfl⟩) (fun _ _ => rfl) (fun _ _ _ => rfl) ⟨Nat.le_refl _, Nat.le_refl _⟩ rfl rfl rfl
    (fun id b hi ho hb => ?_) (fun id id' b hi hi' ho ho' hb hb' => ?_) (fun id _ => h.hone id) (fun hk id hi => ?_)
  · rw [hu]; split
    · simp [settle, h.fresh id hn]
    · exact h.fresh id hn
  · rw [hu, if_pos hi] at ho
    exact .inr ⟨id, hi, settle_not_own m id ho, hb⟩
  · rw [hu, if_pos hi] at ho
    rw [hu, if_pos hi'] at ho'
    exact h.inj id id' b (settle_not_own m id ho) (settle_not_own m id' ho') hb hb'
  · rw [hu, if_pos hi]
    have hb := h.blk id
    generalize hM : updM m (ids.map (settle m)) = M at *
    rw [settle_eq]
    cases hm : m id with
    | row e t xs =>
      rw [hm] at hb
      obtain ⟨a, cap, flat, e1, e2, e3, e4, e5⟩ := row_read hb
      show ro w (Owned cx σ _) (.sl t) xs [σ id]
      refine ⟨a, xs.length, cap, by rw [e1], rfl, e2, e3, ?_⟩
      rcases e5 with ⟨rfl, _⟩ | ⟨g, rfl, e5, e6⟩
      · exact .inl rfl
      · refine .inr ⟨g, 0, flat, rfl, roAll_mono (ro_keep hk.k t) _ _ e4, fun j u hu' => ⟨?_, by rw [Nat.zero_add]; exact e6 j u hu'⟩⟩
        rintro (hf | ⟨i, ho, hbi⟩)
        · exact h.notF id g (by rw [hm]; rfl) (.inl e5) hf
        · have hoi : own (m i) = true := by
            rw [hu] at ho; split at ho
            · exact settle_not_own m i ho
            · exact ho
          have := h.inj id i g (by rw [hm]; rfl) hoi (.inl e5) hbi
          subst this
          rw [hu, if_pos hi] at ho
          simp [settle, hm, own] at ho
    | dead => trivial
    | settled t xs =>
      rw [hm] at hb
      show ro w _ (.sl t) xs [σ id]
      exact ro_keep hk.k (.sl t) xs _ hb
    | cells e cs =>
      rw [hm] at hb
      obtain ⟨b, vs, e1, e2, k, k1⟩ := hb
      exact ⟨b, vs, e1, e2, repCs_keep hk cs vs k, k1⟩
    | mapb kt vt ka va l =>
      rw [hm] at hb
      obtain ⟨r, es, cl, e1, e2, k⟩ := hb
      exact ⟨r, es, cl, e1, e2, mapRep_keep hk l _ k⟩
    | fam e t xss =>
      rw [hm] at hb
      obtain ⟨f, vs, e1, k⟩ := hb
      exact ⟨f, vs, e1, famRep_keep hk k (fun _ _ _ _ => rfl)⟩
    | mapg kt ka fid ks hole =>
      rw [hm] at hb
      obtain ⟨r, es, f, vs, e1, e2, e3, e4, k⟩ := hb
      exact ⟨r, es, f, vs, e1, e2, e3, e4, mapgRep_keep hk k⟩
    | lenb n =>
      rw [hm] at hb
      exact hb

theorem view_settle (m : Mem) (ids : List Nat) (t : Ty) (c : C1) : view (updM m (ids.map (settle m))) t c = view m t c := by
  have key : ∀ id, updM m (ids.map (settle m)) id = if id ∈ ids then (settle m id).2 else m id := fun id => updM_settle m ids m id (fun i _ => .inl rfl)
  cases c <;> try rfl
  · rename_i id
    simp only [view]
    rw [key]
    by_cases hi : id ∈ ids
    · rw [if_pos hi, settle_eq]
      cases hm : m id <;> simp
    · rw [if_neg hi]
  · rename_i id' sz lo len
    simp only [view]
    rw [key]
    by_cases hi : id' ∈ ids
    · rw [if_pos hi, settle_eq]
      cases hm : m id' <;> simp
    · rw [if_neg hi]

theorem impl_settle (m : Mem) (ids : List Nat) : ∀ (t : Ty) (cs : List C1), impl (updM m (ids.map (settle m))) t cs = impl m t cs
  | .int _, _ => rfl
  | .bool, _ => rfl
  | .str, _ => rfl
  | .unit, _ => rfl
  | .sl t, cs => by
    show implL _ t cs = implL _ t cs
    unfold implL
    split
    · exact view_settle m ids t _
    · rfl
  | .pair a b, cs => by
    show implP _ _ = implP _ _
    rw [impl_settle m ids a, impl_settle m ids b]

theorem settled_not_own {m : Mem} {ids : List Nat} {t : Ty} {cs : List C1} {y : t.den} (hi : impl m t cs = some y) (hs : ∀ id ∈ rowsOf cs, id ∈ ids) :
    ∀ id ∈ rowsOf cs, own (updM m (ids.map (settle m)) id) = false := by
  intro id hid
  rw [updM_settle m ids m id (fun i _ => .inl rfl), if_pos (hs id hid), settle_eq]
  obtain ⟨u, xs, hm | ⟨e, hm⟩⟩ := rows_are _ _ _ hi id hid <;> simp [hm, own]

end Go.Ev
