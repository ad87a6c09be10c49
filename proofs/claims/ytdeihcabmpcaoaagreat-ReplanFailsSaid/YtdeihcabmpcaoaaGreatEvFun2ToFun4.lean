/- A body's walk gives a contract: the call's beginning. -/
import Derived.Test.YtdeihcabmpcaoaaGreatEvCodeToFun
set_option linter.unusedSimpArgs false
set_option linter.unusedVariables false
namespace Go.Ev

/-! ### lists with keys -/

theorem findL_nodup {α : Type} : ∀ (l : List (Nat × α)) (k : Nat) (v : α), (l.map (·.1)).Nodup → (k, v) ∈ l → findL l k = some v
 | (j, u) :: l, k, v, hn, hm => by
   rw [List.map_cons, List.nodup_cons] at hn
   simp only [findL]
   rcases List.mem_cons.1 hm with e | e
   · cases e; simp
   · have : j ≠ k := fun e' => hn.1 (List.mem_map.2 ⟨_, e, e'.symm⟩)
     rw [if_neg this]
     exact findL_nodup l k v hn.2 e

theorem mem_nodup {l : Heap} {k : Nat} {b : Blk} (hn : (l.map (·.1)).Nodup) (hm : (k, b) ∈ l) : mem l k = b := by
 unfold mem; rw [getL_findL, findL_nodup l k b hn hm]; rfl
theorem mem_none {l : Heap} {k : Nat} (h : ∀ p ∈ l, p.1 ≠ k) : mem l k = .dead := by
 unfold mem
 rcases getL_mem (d := Blk.dead) l k with e | e
 · exact e
 · exact absurd rfl (h _ e)
theorem updM_nodup {m : Mem} : ∀ {l : Heap} {k : Nat} {b : Blk}, (l.map (·.1)).Nodup → (k, b) ∈ l → updM m l k = b
 | (j, c) :: l, k, b, hn, hm => by
   rw [List.map_cons, List.nodup_cons] at hn
   simp only [updM]
   rcases List.mem_cons.1 hm with e | e
   · cases e
     rw [updM_off _ l j (fun p hp e => hn.1 (List.mem_map.2 ⟨p, hp, e⟩)), if_pos rfl]
   · exact updM_nodup hn.2 e

theorem zip_fst {α β : Type} : ∀ (a : List α) (b : List β), a.length = b.length → (a.zip b).map (·.1) = a
 | [], _, _ => rfl
 | _ :: _, [], h => by simp at h
 | x :: a, y :: b, h => by simp only [List.zip_cons_cons, List.map_cons]; rw [zip_fst a b (by simpa using h)]
theorem zip_snd {α β : Type} : ∀ (a : List α) (b : List β), a.length = b.length → (a.zip b).map (·.2) = b
 | [], [], _ => rfl
 | [], _ :: _, h => by simp at h
 | _ :: _, [], h => by simp at h
 | x :: a, y :: b, h => by simp only [List.zip_cons_cons, List.map_cons]; rw [zip_snd a b (by simpa using h)]
def zip3 {α β γ : Type} (a : List α) (b : List β) (c : List γ) : List (α × β × γ) := a.zip (b.zip c)
theorem zip3_12 {α β γ : Type} : ∀ (a : List α) (b : List β) (c : List γ), a.length = b.length → b.length = c.length → (zip3 a b c).map (fun t => (t.1, t.2.1)) = a.zip b
 | [], _, _, _, _ => rfl
 | _ :: _, [], _, h, _ => by simp at h
 | _ :: _, _ :: _, [], _, h => by simp at h
 | x :: a, y :: b, z :: c, h, k => by
   have := zip3_12 a b c (by simpa using h) (by simpa using k)
   unfold zip3 at this ⊢
   simp only [List.zip_cons_cons, List.map_cons]; rw [this]
theorem zip3_13 {α β γ : Type} : ∀ (a : List α) (b : List β) (c : List γ), a.length = b.length → b.length = c.length → (zip3 a b c).map (fun t => (t.1, t.2.2)) = a.zip c
 | [], _, _, _, _ => rfl
 | _ :: _, [], _, h, _ => by simp at h
 | _ :: _, _ :: _, [], _, h => by simp at h
 | x :: a, y :: b, z :: c, h, k => by
   have := zip3_13 a b c (by simpa using h) (by simpa using k)
   unfold zip3 at this ⊢
   simp only [List.zip_cons_cons, List.map_cons]; rw [this]
theorem zip3_23 {α β γ : Type} : ∀ (a : List α) (b : List β) (c : List γ), a.length = b.length → b.length = c.length → (zip3 a b c).map (·.2) = b.zip c
 | [], [], [], _, _ => rfl
 | [], _ :: _, _, h, _ => by simp at h
 | [], [], _ :: _, _, h => by simp at h
 | _ :: _, [], _, h, _ => by simp at h
 | _ :: _, _ :: _, [], _, h => by simp at h
 | x :: a, y :: b, z :: c, h, k => by
   have := zip3_23 a b c (by simpa using h) (by simpa using k)
   unfold zip3 at this ⊢
   simp only [List.zip_cons_cons, List.map_cons]; rw [this]

/-! ### the parameters -/

section
variable {m : Mem}

theorem rdMap_some {kt vt : Ty} {ka va : Bool} {B : Blk} {l : List (kt.den × vt.den)} (h : rdMap kt vt ka va B = some l) : B = .mapb kt vt ka va l := by
 cases B <;> simp only [rdMap] at h <;> try (cases h; done)
 rename_i kt' vt' ka' va' l'
 split at h
 · rename_i e
   unfold castMap at h
   split at h
   · rename_i e2
     obtain ⟨e3, e4⟩ := e2
     subst e3; subst e4
     obtain ⟨e5, e6⟩ := e
     subst e5; subst e6
     cases h; rfl
   · cases h
 · cases h

theorem rdBlk_some {t : Ty} {e : TypeId} {B : Blk} {y : t.den} (h : rdBlk t e m B = some y) : ∃ cs, B = .cells e cs ∧ impl m t cs = some y := by
 cases B <;> simp only [rdBlk] at h <;> try (cases h; done)
 rename_i e' cs
 split at h
 · rename_i e2; subst e2; exact ⟨cs, rfl, h⟩
 · cases h

theorem rdRow_some {t : Ty} {e : TypeId} {B : Blk} {y : List t.den} (h : rdRow t e B = some y) : B = .row e t y := by
 cases B <;> simp only [rdRow] at h <;> try (cases h; done)
 rename_i e' u xs
 split at h
 · rename_i e2
   subst e2
   obtain ⟨e3, e4⟩ := castTy_some h
   subst e3; subst e4; rfl
 · cases h

theorem rdFb_some {e : TypeId} {g : FuncId} {B : Blk} {y : Unit} (h : rdFb e g B = some y) : B = .cells e [.fn g []] := by
 unfold rdFb at h
 split at h
 · split at h
   · rename_i e1; rw [e1.1, e1.2]
   · cases h
 · cases h

theorem rdBx_some {B : Blk} {y : Unit} (h : rdBx B = some y) : ∃ e cs, B = .cells e cs := by
 unfold rdBx at h
 split at h
 · exact ⟨_, _, rfl⟩
 · cases h

/-- What is held. -/
inductive CapIs (m : Mem) (id : Nat) : (k : CapK) → k.den → Prop
 | p (e : TypeId) (t : Ty) (y : t.den) (cs : List C1) (h : m id = .cells e cs) (hi : impl m t cs = some y) : CapIs m id (.p e t) y
 | fb (e : TypeId) (g : FuncId) (y : Unit) (h : m id = .cells e [.fn g []]) : CapIs m id (.fb e g) y
 | po (e : TypeId) (t : Ty) (y : t.den) (cs : List C1) (h : m id = .cells e cs) (hi : impl m t cs = some y) : CapIs m id (.po e t) y
 | bx (y : Unit) (e : TypeId) (cs : List C1) (h : m id = .cells e cs) : CapIs m id .bx y

theorem rdCap_some {k : CapK} {c : C1} {y : k.den} (h : rdCap m k c = some y) : ∃ id, c = .loc id 0 ∧ CapIs m id k y := by
 cases k with
 | p e t =>
   cases c with
   | loc id off =>
     cases off with
     | zero =>
       simp only [rdCap] at h
       obtain ⟨cs, e1, e2⟩ := rdBlk_some h
       exact ⟨id, rfl, .p e t y cs e1 e2⟩
     | succ n => simp [rdCap] at h
   | _ => simp [rdCap] at h
 | fb e g =>
   cases c with
   | loc id off =>
     cases off with
     | zero =>
       simp only [rdCap] at h
       exact ⟨id, rfl, .fb e g y (rdFb_some h)⟩
     | succ n => simp [rdCap] at h
   | _ => simp [rdCap] at h
 | po e t =>
   cases c with
   | loc id off =>
     cases off with
     | zero =>
       simp only [rdCap] at h
       obtain ⟨cs, e1, e2⟩ := rdBlk_some h
       exact ⟨id, rfl, .po e t y cs e1 e2⟩
     | succ n => simp [rdCap] at h
   | _ => simp [rdCap] at h
 | bx =>
   cases c with
   | loc id off =>
     cases off with
     | zero =>
       simp only [rdCap] at h
       obtain ⟨e, cs, e1⟩ := rdBx_some h
       exact ⟨id, rfl, .bx y e cs e1⟩
     | succ n => simp [rdCap] at h
   | _ => simp [rdCap] at h

theorem rd_p {e : TypeId} {t : Ty} {v : AV} {y : t.den} (h : rd m (.p e t) v = some y) : ∃ id, v = .one (.loc id 0) ∧ rdBlk t e m (m id) = some y := by
 cases v with
 | one c => cases c with
   | loc id off => cases off with
     | zero => exact ⟨id, rfl, h⟩
     | succ n => simp [rd] at h
   | _ => simp [rd] at h
 | _ => simp [rd] at h
theorem rd_mp {kt vt : Ty} {ka va : Bool} {v : AV} {y : List (kt.den × vt.den)} (h : rd m (.mp kt vt ka va) v = some y) : ∃ id, v = .one (.map id) ∧ rdMap kt vt ka va (m id) = some y := by
 cases v with
 | one c => cases c with
   | map id => exact ⟨id, rfl, h⟩
   | _ => simp [rd] at h
 | _ => simp [rd] at h
theorem splitM_some : ∀ {cs : List C1} {ds : List C1} {j : Nat}, splitM cs = some (ds, j) → cs = ds ++ [.map j]
 | [], ds, j, h => by cases h
 | c :: cs, ds, j, h => by
   unfold splitM at h
   split at h
   · cases h
   · rename_i e; cases e; cases h; rfl
   · rename_i c' cs' _ e
     cases e
     obtain ⟨p, hp, e⟩ := Option.map_eq_some_iff.1 h
     cases e
     rw [splitM_some (cs := cs) (ds := p.1) (j := p.2) hp]; rfl
theorem rd_pm {t kt vt : Ty} {ka va : Bool} {v : AV} {y : t.den × List (kt.den × vt.den)} (h : rd m (.pm t kt vt ka va) v = some y) :
 ∃ ds j, v = .one (.sp (ds ++ [.map j]) 0) ∧ splitM (ds ++ [.map j]) = some (ds, j) ∧ impl m t ds = some y.1 ∧ m j = .mapb kt vt ka va y.2 := by
 cases v with
 | one c => cases c with
   | sp cs off => cases off with
     | zero =>
       simp only [rd] at h
       cases hs : splitM cs with
       | none => rw [hs] at h; cases h
       | some p =>
         obtain ⟨ds, j⟩ := p
         rw [hs] at h
         obtain ⟨h1, h2⟩ := implP_some h
         have e := splitM_some hs
         subst e
         exact ⟨ds, j, rfl, hs, h1, rdMap_some h2⟩
     | succ n => simp [rd] at h
   | _ => simp [rd] at h
 | _ => simp [rd] at h
theorem rowsOf_map (ds : List C1) (j : Nat) : ∀ id ∈ rowsOf (ds ++ [.map j]), id ∈ rowsOf ds := by
 intro id h
 rw [rowsOf_append] at h
 rcases List.mem_append.1 h with h | h
 · exact h
 · cases h
theorem rd_o {e : TypeId} {t : Ty} {v : AV} {y : List t.den} (h : rd m (.o e t) v = some y) : ∃ id, v = .one (.row id) ∧ rdRow t e (m id) = some y := by
 cases v with
 | one c => cases c with
   | row id => exact ⟨id, rfl, h⟩
   | _ => simp [rd] at h
 | _ => simp [rd] at h
theorem rd_oc {e : TypeId} {t : Ty} {v : AV} {y : List t.den} (h : rd m (.oc e t) v = some y) : ∃ id, v = .one (.row id) ∧ rdRow t e (m id) = some y := by
 cases v with
 | one c => cases c with
   | row id => exact ⟨id, rfl, h⟩
   | _ => simp [rd] at h
 | _ => simp [rd] at h
theorem rd_nl {v : AV} {y : Unit} (h : rd m .nl v = some y) : v = .one .nilsl := by
 cases v with
 | one c => cases c with
   | nilsl => rfl
   | _ => simp [rd] at h
 | _ => simp [rd] at h
theorem rd_bx {v : AV} {y : Unit} (h : rd m .bx v = some y) : ∃ id, v = .one (.loc id 0) ∧ rdBx (m id) = some y := by
 cases v with
 | one c => cases c with
   | loc id off => cases off with
     | zero => exact ⟨id, rfl, h⟩
     | succ n => simp [rd] at h
   | _ => simp [rd] at h
 | _ => simp [rd] at h
def capI (i : Nat) : CapK → Nat
 | .bx => 31
 | _ => i
def capR (m : Mem) (id : Nat) : CapK → List Nat
 | .bx => []
 | _ => blkRows (m id)
theorem capI_ne {i : Nat} {k : CapK} (hk : k ≠ .bx) : capI i k = i := by cases k <;> first | rfl | exact absurd rfl hk
theorem capCids_cons (i : Nat) (k : CapK) (ks : List CapK) : capCids i (k :: ks) = capI i k :: capCids (i + 1) ks := by
 cases k <;> rfl
theorem capAvs_cons (i : Nat) (k : CapK) (ks : List CapK) : capAvs i (k :: ks) = .loc (capI i k) 0 :: capAvs (i + 1) ks := by
 cases k <;> rfl
theorem capRows_cons (k : CapK) (ks : List CapK) (id o : Nat) (cs : List C1) : capRows m (k :: ks) (.loc id o :: cs) = capR m id k ++ capRows m ks cs := by
 cases k <;> simp [capRows, capR]
theorem rd_cl {g : FuncId} {ks : List CapK} {v : AV} {y : cdens ks} (h : rd m (.cl g ks) v = some y) : ∃ caps, v = .one (.fn g caps) ∧ rdCaps m ks caps = some y := by
 cases v with
 | one c => cases c with
   | fn g' caps =>
     simp only [rd] at h
     split at h
     · rename_i e; subst e; exact ⟨caps, rfl, h⟩
     · cases h
   | _ => simp [rd] at h
 | _ => simp [rd] at h

theorem rdCaps_len : ∀ (ks : List CapK) (cs : List C1) (y : cdens ks) (i : Nat), rdCaps m ks cs = some y → (capIds cs).length = ks.length ∧ (capCids i ks).length = ks.length ∧ (∀ z, (capBlks ks z).length = ks.length ∧ (capNbs ks z).length = ks.length) ∧ ∀ id ∈ capIds cs, own (m id) = true
 | [], [], _, _, _ => ⟨rfl, rfl, fun _ => ⟨rfl, rfl⟩, fun id h => by cases h⟩
 | [], _ :: _, _, _, h => by cases h
 | _ :: _, [], _, _, h => by cases h
 | k :: ks, c :: cs, y, i, h => by
   obtain ⟨h1, h2⟩ := implP_some h
   obtain ⟨g1, g2, g3, g4⟩ := rdCaps_len ks cs y.2 (i + 1) h2
   obtain ⟨id, rfl, hm⟩ := rdCap_some h1
   refine ⟨by simp [capIds, g1], by simp [capCids_cons, g2], fun z => by simp [capBlks, capNbs, g3], fun j hj => ?_⟩
   rcases List.mem_cons.1 hj with e | e
   · rw [e]
     cases hm with
     | p e t y cs hq hi => rw [hq]; rfl
     | fb e g y hq => rw [hq]; rfl
     | po e t y cs hq hi => rw [hq]; rfl
     | bx y e cs hq => rw [hq]; rfl
   · exact g4 j e

theorem rd_len {k : PK} {v : AV} {y : k.den} (i : Nat) (h : rd m k v = some y) : (pid m k v).length = (pcid i k).length ∧ (∀ z, (pbl k z).length = (pcid i k).length) ∧ (∀ z, (nbl k z).length = (pcid i k).length) ∧ ∀ id ∈ pid m k v, own (m id) = true := by
 cases k with
 | d ag t =>
   have e : pid m (.d ag t) v = [] := by cases v with
    | one c => cases c <;> rfl
    | _ => rfl
   rw [e]; exact ⟨rfl, fun _ => rfl, fun _ => rfl, fun id hid => by cases hid⟩
 | p e t =>
   obtain ⟨jd, rfl, hh⟩ := rd_p h
   have h := hh
   obtain ⟨cs, e1, _⟩ := rdBlk_some h
   exact ⟨rfl, fun _ => rfl, fun _ => rfl, fun id hid => by simp [pid] at hid; rw [hid, e1]; rfl⟩
 | mp kt vt ka va =>
   obtain ⟨jd, rfl, hh⟩ := rd_mp h
   have h := hh
   have e1 := rdMap_some h
   exact ⟨rfl, fun _ => rfl, fun _ => rfl, fun id hid => by simp [pid] at hid; rw [hid, e1]; rfl⟩
 | o e t =>
   obtain ⟨jd, rfl, hh⟩ := rd_o h
   have h := hh
   have e1 := rdRow_some h
   exact ⟨rfl, fun _ => rfl, fun _ => rfl, fun id hid => by simp [pid] at hid; rw [hid, e1]; rfl⟩
 | pm t kt vt ka va =>
   obtain ⟨ds, j, rfl, hs, h1, h2⟩ := rd_pm h
   have e : pid m (.pm t kt vt ka va) (.one (.sp (ds ++ [.map j]) 0)) = [j] := by simp only [pid, hs, pmId]
   rw [e]
   exact ⟨rfl, fun _ => rfl, fun _ => rfl, fun id hid => by rw [List.mem_singleton.1 hid, h2]; rfl⟩
 | nl =>
   obtain rfl := rd_nl h
   exact ⟨rfl, fun _ => rfl, fun _ => rfl, fun id hid => by cases hid⟩
 | oc e t =>
   obtain ⟨jd, rfl, hh⟩ := rd_oc h
   have h := hh
   have e1 := rdRow_some h
   exact ⟨rfl, fun _ => rfl, fun _ => rfl, fun id hid => by simp [pid] at hid; rw [hid, e1]; rfl⟩
 | bx =>
   obtain ⟨jd, rfl, hh⟩ := rd_bx h
   obtain ⟨e, cs, e1⟩ := rdBx_some hh
   exact ⟨rfl, fun _ => rfl, fun _ => rfl, fun id hid => by simp [pid] at hid; rw [hid, e1]; rfl⟩
 | cl g ks =>
   obtain ⟨jd, rfl, hh⟩ := rd_cl h
   have h := hh
   obtain ⟨g1, g2, g3, g4⟩ := rdCaps_len ks _ y (8 + 4 * i) h
   exact ⟨by simp only [pid, pcid]; omega, fun z => by simp only [pbl, pcid]; rw [(g3 z).1, g2], fun z => by simp only [nbl, pcid]; rw [(g3 z).2, g2], g4⟩

theorem rds_cons {k : PK} {ks : List PK} {v : AV} {vs : List AV} {x : dens (k :: ks)} (h : rds m (k :: ks) (v :: vs) = some x) : rd m k v = some x.1 ∧ rds m ks vs = some x.2 := implP_some h

/-- The pointers among the arguments: the callee's id, the caller's. -/
def ptrs (m : Mem) : Nat → List PK → List AV → List (Nat × Nat)
 | i, k :: ks, v :: vs => (pcid i k).zip (pid m k v) ++ ptrs m (i + 1) ks vs
 | _, _, _ => []

/-- The pointers, their blocks. -/
def tri (m : Mem) (B : (k : PK) → k.den → List Blk) : Nat → (ks : List PK) → List AV → dens ks → List (Nat × Nat × Blk)
 | _, [], _, _ => []
 | _, _ :: _, [], _ => []
 | i, k :: ks, v :: vs, x => zip3 (pcid i k) (pid m k v) (B k x.1) ++ tri m B (i + 1) ks vs x.2

theorem tri_eq (B : (k : PK) → k.den → List Blk) (hB : B = pbl ∨ B = nbl) : ∀ (ks : List PK) (i : Nat) (vs : List AV) (x x' : dens ks), rds m ks vs = some x →
 ptrs m i ks vs = (tri m B i ks vs x').map (fun t => (t.1, t.2.1)) ∧ pheapB B i ks x' = (tri m B i ks vs x').map (fun t => (t.1, t.2.2)) ∧ (B = nbl → pupd m ks vs x' = (tri m B i ks vs x').map (·.2)) ∧
 (ptrs m i ks vs).map (·.1) = pcids i ks ∧ (ptrs m i ks vs).map (·.2) = pids m ks vs ∧ ∀ id ∈ pids m ks vs, own (m id) = true
 | [], i, [], _, _, _ => ⟨rfl, rfl, fun _ => rfl, rfl, rfl, fun id h => by cases h⟩
 | [], i, _ :: _, _, _, h => by simp [rds] at h
 | k :: ks, i, [], _, _, h => by simp [rds] at h
 | k :: ks, i, v :: vs, x, x', h => by
   obtain ⟨h1, h2⟩ := rds_cons h
   obtain ⟨e1, e2, e3, e4, e5, e6⟩ := tri_eq B hB ks (i + 1) vs x.2 x'.2 h2
   obtain ⟨l1, l2, l3, l4⟩ := rd_len i h1
   have lB : (B k x'.1).length = (pcid i k).length := by rcases hB with rfl | rfl <;> first | exact l2 _ | exact l3 _
   refine ⟨?_, ?_, fun hb => ?_, ?_, ?_, ?_⟩
   · simp only [ptrs, tri, List.map_append]; rw [e1, zip3_12 _ _ _ (by omega) (by omega)]
   · simp only [pheapB, tri, List.map_append]; rw [e2, zip3_13 _ _ _ (by omega) (by omega)]
   · simp only [pupd, tri, List.map_append]; rw [e3 hb, zip3_23 _ _ _ (by omega) (by omega), hb]
   · simp only [ptrs, pcids, List.map_append]; rw [e4, zip_fst _ _ (by omega)]
   · simp only [ptrs, pids, List.map_append]; rw [e5, zip_snd _ _ (by omega)]
   · intro id hid
     simp only [pids, List.mem_append] at hid
     exact hid.elim (l4 id) (e6 id)

theorem capRows_are : ∀ (ks : List CapK) (cs : List C1) (y : cdens ks), rdCaps m ks cs = some y → ∀ id ∈ capRows m ks cs, ∃ u xs, m id = .settled u xs ∨ ∃ e, m id = .row e u xs
 | [], [], _, _, id, hid => by cases hid
 | [], _ :: _, _, h, _, _ => by cases h
 | _ :: _, [], _, h, _, _ => by cases h
 | k :: ks, c :: cs, y, h, id, hid => by
   obtain ⟨h1, h2⟩ := implP_some h
   obtain ⟨j, rfl, hm⟩ := rdCap_some h1
   rw [capRows_cons] at hid
   simp only [List.mem_append] at hid
   rcases hid with hid | hid
   · cases hm with
     | bx y e cs hq => cases hid
     | p e t y cs hq hi => simp only [capR] at hid; rw [hq] at hid; exact rows_are t cs _ hi id hid
     | fb e g y hq => simp only [capR] at hid; rw [hq] at hid; simp [blkRows, rowsOf] at hid
     | po e t y cs hq hi => simp only [capR] at hid; rw [hq] at hid; exact rows_are t cs _ hi id hid
   · exact capRows_are ks cs y.2 h2 id hid

theorem rw_not_own : ∀ (ks : List PK) (vs : List AV) (x : dens ks), rds m ks vs = some x → ∀ id ∈ rws m ks vs, ∃ u xs, m id = .settled u xs ∨ ∃ e, m id = .row e u xs
 | [], _, _, _, id, hid => by simp [rws] at hid
 | k :: ks, [], _, h, id, hid => by simp [rds] at h
 | k :: ks, v :: vs, x, h, id, hid => by
   obtain ⟨h1, h2⟩ := rds_cons h
   simp only [rws, List.mem_append] at hid
   rcases hid with hid | hid
   · cases k with
     | d ag t =>
       simp only [rw1] at hid
       cases v with
       | one c =>
         cases ag
         · simp only [rd] at h1; exact rows_are t _ _ h1 id hid
         · simp [rd] at h1
       | agg cs =>
         cases ag
         · simp [rd] at h1
         · simp only [rd] at h1; exact rows_are t _ _ h1 id hid
       | _ => simp [AV.cells, rowsOf] at hid
     | mp kt vt ka va => simp [rw1] at hid
     | o e t => simp [rw1] at hid
     | oc e t => simp [rw1] at hid
     | nl => simp [rw1] at hid
     | pm t kt vt ka va =>
       obtain ⟨ds, j, rfl, hs, g1, g2⟩ := rd_pm h1
       simp only [rw1] at hid
       exact rows_are t ds _ g1 id (rowsOf_map ds j id hid)
     | bx => simp [rw1] at hid
     | p e t =>
       obtain ⟨jd, rfl, hh⟩ := rd_p h1
       have h1 := hh
       obtain ⟨cs, e1, e2⟩ := rdBlk_some h1
       simp only [rw1, e1, blkRows] at hid
       exact rows_are t cs _ e2 id hid
     | cl g cks =>
       obtain ⟨jd, rfl, hh⟩ := rd_cl h1
       have h1 := hh
       exact capRows_are cks _ _ h1 id hid
   · exact rw_not_own ks vs x.2 h2 id hid

end

/-! ### the call's beginning -/

section
variable {cx cx' : Cx} {σ σ' : Nat → Value} {N N' : Nat → Prop} {m m' : Mem} {w : World}

/-- Data that is read is there for whoever doesn't own its memory. -/
theorem data_in (h : RepM cx σ N m w) (ids : List Nat) (x' : Rx) (hw : x'.w = w) (hO : ∀ b, x'.O b → Owned cx σ (updM m (ids.map (settle m))) b) {t : Ty} {cs : List C1} {y : t.den} {vs : List Value}
 (hi : impl m t cs = some y) (hs : ∀ id ∈ rowsOf cs, id ∈ ids) (hr : repCs (rx cx σ N m w) cs vs) : ro w x'.O t y vs := by
 obtain ⟨h2, k2⟩ := h.settles ids
 have h3 := impl_ro h2 t cs y vs (by rw [impl_settle]; exact hi) (repCs_keep k2 cs vs hr) (settled_not_own hi hs)
 exact ro_keep (.ex fun b _ ho => ⟨fun k => ho (hO b k), rfl⟩) t y vs h3

theorem keepsw {x y : Rx} (hw : y.w = x.w) (hO : ∀ b, y.O b → x.O b) : Keep x.w y.w x.O y.O := .ex fun b _ ho => ⟨fun k => ho (hO b k), by rw [hw]⟩

theorem caps_rep {x x' : Rx} : ∀ (ks : List CapK) (cs : List C1) (y : cdens ks) (us : List Value) (i : Nat), rdCaps m ks cs = some y → repCs x cs us → (∀ j id, (j, id) ∈ (capCids i ks).zip (capIds cs) → x'.σ j = x.σ id ∧ ¬ x'.N j) → repCs x' (capAvs i ks) us
 | [], [], _, us, _, _, hr, _ => by rw [repCs_nil.1 hr]; exact repCs_nil.2 rfl
 | [], _ :: _, _, _, _, h, _, _ => by cases h
 | _ :: _, [], _, _, _, h, _, _ => by cases h
 | k :: ks, c :: cs, y, us, i, h, hr, hp => by
   obtain ⟨h1, h2⟩ := implP_some h
   obtain ⟨id, rfl, _⟩ := rdCap_some h1
   obtain ⟨v, r, rfl, g1, g2⟩ := repCs_cons.1 hr
   rw [capAvs_cons]
   rw [capCids_cons] at hp
   generalize capI i k = i0 at hp ⊢
   have hp' : ∀ j q, (j, q) ∈ (i0, id) :: (capCids (i + 1) ks).zip (capIds cs) → x'.σ j = x.σ q ∧ ¬ x'.N j := fun j q hq => hp j q (by simpa [capIds] using hq)
   obtain ⟨e1, e2⟩ := hp' i0 id (by simp)
   refine repCs_cons.2 ⟨v, r, rfl, ?_, caps_rep ks cs y.2 r (i + 1) h2 g2 (fun j q hq => hp' j q (by simp [hq]))⟩
   unfold repC at g1 ⊢
   exact ⟨e2, by rw [e1]; exact g1.2⟩

/-- One parameter, in the callee's eyes. -/
theorem pav_rep (h : RepM cx σ N m w) (ids : List Nat) (x' : Rx) (hw : x'.w = w) (hO : ∀ b, x'.O b → Owned cx σ (updM m (ids.map (settle m))) b) {k : PK} {v : AV} {y : k.den} {u : Value} {i : Nat}
 (hi : rd m k v = some y) (hs : ∀ id ∈ rw1 m k v, id ∈ ids) (hr : repA (rx cx σ N m w) v u) (hp : ∀ j id, (j, id) ∈ (pcid i k).zip (pid m k v) → x'.σ j = σ id ∧ ¬ x'.N j) : repA x' (pav i k y) u := by
 cases k with
 | d ag t =>
   have key : ∀ cs vs, impl m t cs = some y → (∀ id ∈ rowsOf cs, id ∈ ids) → repCs (rx cx σ N m w) cs vs → repCs x' (expl t y) vs := fun cs vs h1 h2 h3 => expl_rep t y vs (hw ▸ data_in h ids x' hw hO h1 h2 h3)
   cases v with
   | one c =>
     cases ag
     · simp only [rd] at hi
       unfold repA at hr
       have := key [c] [u] hi hs (repCs_cons.2 ⟨u, [], rfl, hr, repCs_nil.2 rfl⟩)
       have hl := repCs_len _ _ this
       simp only [pav, avOf, Bool.false_eq_true, if_false]
       match hx : expl t y, hl with
       | [d], _ =>
         rw [hx] at this
         obtain ⟨v', r, e, h1, _⟩ := repCs_cons.1 this
         cases e
         unfold repA; exact h1
     · simp [rd] at hi
   | agg cs =>
     cases ag
     · simp [rd] at hi
     · simp only [rd] at hi
       unfold repA at hr
       obtain ⟨vs, e, hr⟩ := hr
       have := key cs vs hi hs hr
       simp only [pav, avOf, if_true]
       unfold repA
       exact ⟨vs, e, this⟩
   | tup _ => cases ag <;> simp [rd] at hi
   | ifd _ _ => cases ag <;> simp [rd] at hi
 | cl g ks =>
   obtain ⟨jd, rfl, hh⟩ := rd_cl hi
   have hi := hh
   simp only [pav]
   unfold repA repC at hr ⊢
   obtain ⟨vs, e1, e2⟩ := hr
   exact ⟨vs, e1, caps_rep (x := rx cx σ N m w) ks _ y vs (8 + 4 * i) hi e2 hp⟩
 | p e t =>
   obtain ⟨jd, rfl, hh⟩ := rd_p hi
   have hi := hh
   obtain ⟨e1, e2⟩ := hp i jd (by simp [pcid, pid])
   simp only [pav]
   unfold repA repC at hr ⊢
   exact ⟨e2, by rw [e1]; exact hr.2⟩
 | mp kt vt ka va =>
   obtain ⟨jd, rfl, hh⟩ := rd_mp hi
   have hi := hh
   obtain ⟨e1, e2⟩ := hp i jd (by simp [pcid, pid])
   simp only [pav]
   unfold repA repC at hr ⊢
   exact ⟨e2, by rw [e1]; exact hr.2⟩
 | o e t =>
   obtain ⟨jd, rfl, hh⟩ := rd_o hi
   have hi := hh
   obtain ⟨e1, e2⟩ := hp i jd (by simp [pcid, pid])
   simp only [pav]
   unfold repA repC at hr ⊢
   exact ⟨e2, by rw [e1]; exact hr.2⟩
 | pm t kt vt ka va =>
   obtain ⟨ds, j, rfl, hsp, g1, g2⟩ := rd_pm hi
   obtain ⟨e1, e2⟩ := hp i j (by simp [pcid, pid, hsp, pmId])
   simp only [pav]
   simp only [rw1] at hs
   unfold repA repC at hr ⊢
   obtain ⟨b, vs, q1, q2, q3⟩ := hr
   obtain ⟨h3, k3⟩ := h.settles ids
   have hkeep := (k3.k.trans (c := x'.w) (O'' := x'.O) (by have := keepsw (x := rx cx σ N (updM m (ids.map (settle m))) w) (y := x') hw hO; exact this) (Nat.le_refl _))
   refine ⟨b, vs, q1, ?_, q3.keep hkeep⟩
   have hl := repCs_len _ _ q2
   have ht := repCs_take ds.length _ _ q2
   have hd := repCs_drop ds.length _ _ q2
   rw [List.take_left] at ht
   rw [List.drop_left] at hd
   have hx := expl_rep (x := x') t y.1 (vs.take ds.length) (hw ▸ data_in h ids x' hw hO g1 (fun id hid => hs id (by rw [rowsOf_append]; exact List.mem_append.2 (.inl hid))) ht)
   have hm : repCs x' [.map i] (vs.drop ds.length) := by
    obtain ⟨v, r, e, f1, f2⟩ := repCs_cons.1 hd
    rw [e, repCs_nil.1 f2]
    refine repCs_cons.2 ⟨v, [], rfl, ?_, repCs_nil.2 rfl⟩
    unfold repC at f1 ⊢
    exact ⟨e2, by rw [e1]; exact f1.2⟩
   have := repCs_append _ _ _ _ hx hm
   rwa [List.take_append_drop] at this
 | nl =>
   obtain rfl := rd_nl hi
   simp only [pav]
   unfold repA repC at hr ⊢
   exact hr
 | bx =>
   obtain ⟨jd, rfl, hh⟩ := rd_bx hi
   obtain ⟨e1, e2⟩ := hp 31 jd (by simp [pcid, pid])
   simp only [pav]
   unfold repA repC at hr ⊢
   exact ⟨e2, by rw [e1]; exact hr.2⟩
 | oc e t =>
   obtain ⟨jd, rfl, hh⟩ := rd_oc hi
   have hi := hh
   obtain ⟨e1, e2⟩ := hp i jd (by simp [pcid, pid])
   simp only [pav]
   unfold repA repC at hr ⊢
   exact ⟨e2, by rw [e1]; exact hr.2⟩

/-- The parameters in their slots. -/
theorem pslots_rep (h : RepM cx σ N m w) (ids : List Nat) (x' : Rx) (hw : x'.w = w) (hO : ∀ b, x'.O b → Owned cx σ (updM m (ids.map (settle m))) b) :
 ∀ (ks : List PK) (vs : List AV) (y : dens ks) (us : List Value) (i : Nat), rds m ks vs = some y → (∀ id ∈ rws m ks vs, id ∈ ids) → repAs (rx cx σ N m w) vs us → (∀ j id, (j, id) ∈ ptrs m i ks vs → x'.σ j = σ id ∧ ¬ x'.N j) →
   us.length = ks.length ∧ ∀ j v, (j, v) ∈ pslots i ks y → ∃ q, j = i + q ∧ repA x' v (us.getD q undef)
 | [], [], _, us, i, _, _, hr, _ => by
   unfold repAs at hr
   rw [hr]
   exact ⟨rfl, fun j v hv => by simp [pslots] at hv⟩
 | [], _ :: _, _, _, _, h, _, _, _ => by simp [rds] at h
 | _ :: _, [], _, _, _, h, _, _, _ => by simp [rds] at h
 | k :: ks, v :: vs, y, us, i, hrd, hs, hr, hp => by
   obtain ⟨h1, h2⟩ := rds_cons hrd
   unfold repAs at hr
   obtain ⟨u, r, rfl, r1, r2⟩ := hr
   have hp1 : ∀ j id, (j, id) ∈ (pcid i k).zip (pid m k v) → x'.σ j = σ id ∧ ¬ x'.N j := fun j id hid => hp j id (by simp only [ptrs, List.mem_append]; exact .inl hid)
   have hp2 : ∀ j id, (j, id) ∈ ptrs m (i + 1) ks vs → x'.σ j = σ id ∧ ¬ x'.N j := fun j id hj => hp j id (by simp only [ptrs, List.mem_append]; exact .inr hj)
   obtain ⟨g1, g2⟩ := pslots_rep h ids x' hw hO ks vs y.2 r (i + 1) h2 (fun id hid => hs id (by simp [rws, hid])) r2 hp2
   refine ⟨by simp [g1], fun j a ha => ?_⟩
   simp only [pslots] at ha
   rcases List.mem_cons.1 ha with e | e
   · cases e
     exact ⟨0, rfl, pav_rep h ids x' hw hO h1 (fun id hid => hs id (by simp [rws, hid])) r1 hp1⟩
   · obtain ⟨q, e1, e2⟩ := g2 j a e
     exact ⟨q + 1, by omega, by simpa using e2⟩

theorem row_wf (h : RepM cx σ N m w) {id : Nat} {e : TypeId} {t : Ty} {xs : List t.den} (hm : m id = .row e t xs) : Wf (.sl t) xs := by
 have hb := h.blk id
 rw [hm] at hb
 obtain ⟨n, fl, e1, e2, e3⟩ := hb
 refine ⟨?_, fun y hy => ?_⟩
 · rcases e2.2 with ⟨g2, _⟩ | ⟨g, cap, cur, _, g1, g2, g3, g4, _⟩
   · show List.length xs ≤ _; rw [← e1, g2]; simp [maxLen]
   · show List.length xs ≤ _; omega
 · obtain ⟨c, hc⟩ := roAll_mem _ _ e3 y hy
   exact ro_wf t y c hc

theorem cells_wf (h : RepM cx σ N m w) {id : Nat} {e : TypeId} {t : Ty} {cs : List C1} {y : t.den} (hm : m id = .cells e cs) (hi : impl m t cs = some y) : Wf t y := by
 have hb := h.blk id
 rw [hm] at hb
 obtain ⟨b, ws, _, _, hc, _⟩ := hb
 exact ro_wf t y ws (data_in h (rowsOf cs) (rx cx σ N (updM m ((rowsOf cs).map (settle m))) w) rfl (fun b hb => hb) hi (fun _ h => h) hc)

theorem cwf_of (h : RepM cx σ N m w) : ∀ (ks : List CapK) (cs : List C1) (y : cdens ks), rdCaps m ks cs = some y → cwf ks y
 | [], [], _, _ => trivial
 | [], _ :: _, _, h => by cases h
 | _ :: _, [], _, h => by cases h
 | k :: ks, c :: cs, y, hr => by
   obtain ⟨h1, h2⟩ := implP_some hr
   have rest := cwf_of h ks cs y.2 h2
   obtain ⟨id, rfl, hm⟩ := rdCap_some h1
   cases hm with
   | p e t y cs hm hi => exact ⟨cells_wf h hm hi, rest⟩
   | fb e g y hm => exact rest
   | po e t y cs hm hi => exact ⟨cells_wf h hm hi, rest⟩
   | bx y e cs hm => exact rest

theorem pwf_of (h : RepM cx σ N m w) : ∀ (ks : List PK) (vs : List AV) (y : dens ks) (us : List Value), rds m ks vs = some y → repAs (rx cx σ N m w) vs us → pwf ks y
 | [], [], _, us, _, _ => trivial
 | [], _ :: _, _, _, h, _ => by simp [rds] at h
 | _ :: _, [], _, _, h, _ => by simp [rds] at h
 | k :: ks, v :: vs, y, us, hrd, hr => by
   obtain ⟨h1, h2⟩ := rds_cons hrd
   unfold repAs at hr
   obtain ⟨u, r, rfl, r1, r2⟩ := hr
   refine ⟨?_, pwf_of h ks vs y.2 r h2 r2⟩
   have key : ∀ (t : Ty) (z : t.den) cs us, impl m t cs = some z → repCs (rx cx σ N m w) cs us → Wf t z := fun t z cs us g1 g2 =>
    ro_wf t z us (data_in h (rowsOf cs) (rx cx σ N (updM m ((rowsOf cs).map (settle m))) w) rfl (fun b hb => hb) g1 (fun _ h => h) g2)
   cases k with
   | d ag t =>
     cases v with
     | one c =>
       cases ag
       · simp only [rd] at h1
         unfold repA at r1
         exact key t _ [c] [u] h1 (repCs_cons.2 ⟨u, [], rfl, r1, repCs_nil.2 rfl⟩)
       · simp [rd] at h1
     | agg cs =>
       cases ag
       · simp [rd] at h1
       · simp only [rd] at h1
         unfold repA at r1
         obtain ⟨ws, _, r1⟩ := r1
         exact key t _ cs ws h1 r1
     | tup _ => cases ag <;> simp [rd] at h1
     | ifd _ _ => cases ag <;> simp [rd] at h1
   | p e t =>
     obtain ⟨jd, rfl, hh⟩ := rd_p h1
     have h1 := hh
     obtain ⟨cs, e1, e2⟩ := rdBlk_some h1
     exact cells_wf h e1 e2
   | mp => trivial
   | pm t kt vt ka va =>
     obtain ⟨ds, j, rfl, hsp, g1, g2⟩ := rd_pm h1
     unfold repA repC at r1
     obtain ⟨b, ws, q1, q2, q3⟩ := r1
     have ht := repCs_take ds.length _ _ q2
     rw [List.take_left] at ht
     exact key t _ ds _ g1 ht
   | nl => trivial
   | bx => trivial
   | o e t =>
     obtain ⟨jd, rfl, hh⟩ := rd_o h1
     have h1 := hh
     exact row_wf h (rdRow_some h1)
   | oc e t =>
     obtain ⟨jd, rfl, hh⟩ := rd_oc h1
     have h1 := hh
     exact row_wf h (rdRow_some h1)
   | cl g cks =>
     obtain ⟨jd, rfl, hh⟩ := rd_cl h1
     have h1 := hh
     exact cwf_of h cks _ _ h1

theorem cells_in (h : RepM cx σ N m w) (ids : List Nat) (x' : Rx) (hw : x'.w = w) (hO : ∀ b, x'.O b → Owned cx σ (updM m (ids.map (settle m))) b) {e : TypeId} {t : Ty} {cs : List C1} {y : t.den} {j i : Nat} (hm : m j = .cells e cs) (hi : impl m t cs = some y)
 (hs : ∀ id ∈ rowsOf cs, id ∈ ids) (hp : x'.σ i = σ j) : repB x' i (.cells e (expl t y)) := by
 have hb := h.blk j
 rw [hm] at hb
 obtain ⟨bl, ws, k1, k2, hc, k3⟩ := hb
 exact ⟨bl, ws, by rw [hp]; exact k1, by rw [hw]; exact k2, expl_rep t _ ws (hw ▸ data_in h ids x' hw hO hi hs hc), k3⟩

theorem capBlks_rep (h : RepM cx σ N m w) (ids : List Nat) (x' : Rx) (hw : x'.w = w) (hO : ∀ b, x'.O b → Owned cx σ (updM m (ids.map (settle m))) b) :
 ∀ (ks : List CapK) (cs : List C1) (y : cdens ks) (i : Nat), rdCaps m ks cs = some y → (∀ id ∈ capRows m ks cs, id ∈ ids) → (∀ j id, (j, id) ∈ (capCids i ks).zip (capIds cs) → x'.σ j = σ id) → ∀ t ∈ zip3 (capCids i ks) (capIds cs) (capBlks ks y), repB x' t.1 t.2.2
 | [], [], _, _, _, _, _, t, ht => by simp [zip3, capCids] at ht
 | [], _ :: _, _, _, h, _, _, _, _ => by cases h
 | _ :: _, [], _, _, h, _, _, _, _ => by cases h
 | k :: ks, c :: cs, y, i, hr, hs, hp, t, ht => by
   obtain ⟨h1, h2⟩ := implP_some hr
   obtain ⟨id, rfl, hm⟩ := rdCap_some h1
   rw [capRows_cons] at hs
   rw [capCids_cons] at hp ht
   have hs' : ∀ j, j ∈ capR m id k ++ capRows m ks cs → j ∈ ids := hs
   have hi0 : k ≠ .bx → capI i k = i := capI_ne
   generalize capI i k = i0 at hp ht hi0
   have hp' : ∀ j q, (j, q) ∈ (i0, id) :: (capCids (i + 1) ks).zip (capIds cs) → x'.σ j = σ q := fun j q hq => hp j q (by simpa [capIds] using hq)
   have rest := capBlks_rep h ids x' hw hO ks cs y.2 (i + 1) h2 (fun j hj => hs' j (by simp [hj])) (fun j q hq => hp' j q (by simp [hq]))
   have ht' : t = (i0, id, capBlk k y.1) ∨ t ∈ zip3 (capCids (i + 1) ks) (capIds cs) (capBlks ks y.2) := by simpa [zip3, capIds, capBlks] using ht
   rcases ht' with e | e
   · rw [e]
     simp only
     cases hm with
     | p e t y cs hm hi => exact cells_in h ids x' hw hO hm hi (fun j hj => hs' j (by simp only [capR]; rw [hm]; simp [blkRows, hj])) (hp' i0 id (by simp))
     | bx y e cs hm => trivial
     | po e t y cs hm hi => exact cells_in h ids x' hw hO hm hi (fun j hj => hs' j (by simp only [capR]; rw [hm]; simp [blkRows, hj])) (hp' i0 id (by simp))
     | fb e g y hm =>
       have hb := h.blk id
       rw [hm] at hb
       obtain ⟨bl, ws, k1, k2, hc, k3⟩ := hb
       refine ⟨bl, ws, by rw [hp' i0 id (by simp)]; exact k1, by rw [hw]; exact k2, ?_, k3⟩
       obtain ⟨v, r, rfl, g1, g2⟩ := repCs_cons.1 hc
       refine repCs_cons.2 ⟨v, r, rfl, ?_, by rw [repCs_nil.1 g2]; exact repCs_nil.2 rfl⟩
       unfold repC at g1 ⊢
       obtain ⟨vs, e1, e2⟩ := g1
       exact ⟨vs, e1, by rw [repCs_nil.1 e2]; exact repCs_nil.2 rfl⟩
   · exact rest t e

theorem row_in (h : RepM cx σ N m w) (ids : List Nat) (x' : Rx) (hw : x'.w = w) (hO : ∀ b, x'.O b → Owned cx σ (updM m (ids.map (settle m))) b) {e : TypeId} {t : Ty} {xs : List t.den} {j i : Nat} (hm : m j = .row e t xs) (hp : x'.σ i = σ j) : repB x' i (.row e t xs) := by
 obtain ⟨h3, k3⟩ := h.settles ids
 have hb := h.blk j
 rw [hm] at hb
 obtain ⟨n, flat, e1, e2, e3⟩ := hb
 refine ⟨n, flat, e1, by rw [hw, hp]; exact e2, roAll_mono (fun y c hy => ?_) _ _ e3⟩
 have := ro_keep k3.k t y c hy
 exact hw ▸ ro_keep (w' := w) (O' := x'.O) (.ex fun b _ ho => ⟨fun k => ho (hO b k), rfl⟩) t y c this

/-- The blocks of one parameter. -/
theorem pbl_rep (h : RepM cx σ N m w) (ids : List Nat) (x' : Rx) (hw : x'.w = w) (hO : ∀ b, x'.O b → Owned cx σ (updM m (ids.map (settle m))) b) {k : PK} {v : AV} {y : k.den} {i : Nat}
 (hi : rd m k v = some y) (hs : ∀ id ∈ rw1 m k v, id ∈ ids) (hp : ∀ j id, (j, id) ∈ (pcid i k).zip (pid m k v) → x'.σ j = σ id) : ∀ t ∈ zip3 (pcid i k) (pid m k v) (pbl k y), repB x' t.1 t.2.2 := by
 intro t ht
 cases k with
 | d ag u => simp [zip3, pcid] at ht
 | p e u =>
   obtain ⟨jd, rfl, hh⟩ := rd_p hi
   have hi := hh
   obtain ⟨cs, e1, e2⟩ := rdBlk_some hi
   simp only [rw1, e1, blkRows] at hs
   have : t = (i, jd, Blk.cells e (expl u y)) := by simpa [zip3, pcid, pid, pbl] using ht
   rw [this]
   exact cells_in h ids x' hw hO e1 e2 hs (hp i jd (by simp [pcid, pid]))
 | mp kt vt ka va =>
   obtain ⟨jd, rfl, hh⟩ := rd_mp hi
   have hi := hh
   have e1 := rdMap_some hi
   have : t = (i, jd, Blk.mapb kt vt ka va y) := by simpa [zip3, pcid, pid, pbl] using ht
   rw [this]
   obtain ⟨h3, k3⟩ := h.settles ids
   have hb := h.blk jd
   rw [e1] at hb
   obtain ⟨r, es, cl, q1, q2, q3, q4⟩ := hb
   refine ⟨r, es, cl, by rw [hp i jd (by simp [pcid, pid])]; exact q1, by rw [hw]; exact q2, ?_, q4⟩
   exact mapRep_keepw (x := rx cx σ N m w) (y := x') ((k3.k.trans (c := x'.w) (O'' := x'.O) (by have := keepsw (x := rx cx σ N (updM m (ids.map (settle m))) w) (y := x') hw hO; exact this) (Nat.le_refl _))) _ _ q3
 | o e u =>
   obtain ⟨jd, rfl, hh⟩ := rd_o hi
   have hi := hh
   have : t = (i, jd, Blk.row e u y) := by simpa [zip3, pcid, pid, pbl] using ht
   rw [this]
   exact row_in h ids x' hw hO (rdRow_some hi) (hp i jd (by simp [pcid, pid]))
 | pm t' kt vt ka va =>
   obtain ⟨ds, j, rfl, hsp, g1, g2⟩ := rd_pm hi
   have : t = (i, j, Blk.mapb kt vt ka va y.2) := by simpa [zip3, pcid, pid, pbl, hsp, pmId] using ht
   rw [this]
   obtain ⟨h3, k3⟩ := h.settles ids
   have hb := h.blk j
   rw [g2] at hb
   obtain ⟨r, es, cl, q1, q2, q3, q4⟩ := hb
   refine ⟨r, es, cl, by rw [hp i j (by simp [pcid, pid, hsp, pmId])]; exact q1, by rw [hw]; exact q2, ?_, q4⟩
   exact mapRep_keepw (x := rx cx σ N m w) (y := x') ((k3.k.trans (c := x'.w) (O'' := x'.O) (by have := keepsw (x := rx cx σ N (updM m (ids.map (settle m))) w) (y := x') hw hO; exact this) (Nat.le_refl _))) _ _ q3
 | nl => simp [zip3, pcid] at ht
 | bx =>
   obtain ⟨jd, rfl, hh⟩ := rd_bx hi
   have : t = (31, jd, Blk.dead) := by simpa [zip3, pcid, pid, pbl] using ht
   rw [this]
   trivial
 | oc e u =>
   obtain ⟨jd, rfl, hh⟩ := rd_oc hi
   have hi := hh
   have : t = (i, jd, Blk.row e u y) := by simpa [zip3, pcid, pid, pbl] using ht
   rw [this]
   exact row_in h ids x' hw hO (rdRow_some hi) (hp i jd (by simp [pcid, pid]))
 | cl g ks =>
   obtain ⟨jd, rfl, hh⟩ := rd_cl hi
   have hi := hh
   exact capBlks_rep h ids x' hw hO ks _ y (8 + 4 * i) hi hs hp t ht

/-- The blocks of the parameters. -/
theorem pheap_rep (h : RepM cx σ N m w) (ids : List Nat) (x' : Rx) (hw : x'.w = w) (hO : ∀ b, x'.O b → Owned cx σ (updM m (ids.map (settle m))) b) :
 ∀ (ks : List PK) (vs : List AV) (y : dens ks) (i : Nat), rds m ks vs = some y → (∀ id ∈ rws m ks vs, id ∈ ids) → (∀ j id, (j, id) ∈ ptrs m i ks vs → x'.σ j = σ id) →
   ∀ t ∈ tri m pbl i ks vs y, repB x' t.1 t.2.2
 | [], _, _, _, _, _, _, t, ht => by simp [tri] at ht
 | _ :: _, [], _, _, h, _, _, t, ht => by simp [rds] at h
 | k :: ks, v :: vs, y, i, hrd, hs, hp, t, ht => by
   obtain ⟨h1, h2⟩ := rds_cons hrd
   simp only [tri, List.mem_append] at ht
   rcases ht with ht | ht
   · exact pbl_rep h ids x' hw hO h1 (fun id hid => hs id (by simp [rws, hid])) (fun j id hid => hp j id (by simp only [ptrs, List.mem_append]; exact .inl hid)) t ht
   · exact pheap_rep h ids x' hw hO ks vs y.2 (i + 1) h2 (fun id hid => hs id (by simp [rws, hid])) (fun j id hj => hp j id (by simp only [ptrs, List.mem_append]; exact .inr hj)) t ht

end
end Go.Ev

/- A body's walk gives a contract: the call's end. -/
set_option linter.unusedSimpArgs false
set_option linter.unusedVariables false
namespace Go.Ev

section
variable {cx cx' : Cx} {σ σ' : Nat → Value} {N N' : Nat → Prop} {m m' : Mem} {w w' : World} {P : Program} {T : Tab}

/-- One result variable. -/
theorem rv_one {n : Nat} {a : Act} {s : Slots} {m : Mem} (ht : TabOK P T) (h : RepF cx σ N (sget s) m n a w) (r : ResultVar) (hp : (rvE T s m r).pre) :
 ∃ v, repA (rx cx σ N m w) (rvE T s m r).r v ∧ (∀ t, r = .tmp t → v = a.tmps.getD t undef) ∧ (∀ b t, r = .cell b t → ∃ ad, a.tmps.getD b undef = .pointer (some ad) ∧ (loadVar t ad).run P w = .ok v w) := by
 cases r with
 | tmp t => exact ⟨_, h.ss t, (fun q e => by cases e; rfl), (fun b t e => by cases e)⟩
 | cell b t =>
   have hs := h.ss b
   simp only [rvE] at hp ⊢
   generalize sget s b = v at hs hp ⊢
   unfold rvL at hp ⊢
   split at hp
   · rename_i id off
     simp only [loadE] at hp ⊢
     split at hp
     · rename_i e cs hm
       split at hp
       · rename_i hle
         rw [if_pos hle]
         unfold repA repC at hs
         obtain ⟨hn, bl, e1, e2⟩ := hs
         have hb := h.mm.blk id
         rw [hm] at hb
         obtain ⟨b', vs, e3, e4, hcs, h1⟩ := hb
         simp only [rx] at e1 e3 e4
         rw [e1] at e3; simp at e3; subst e3
         have hlen := repCs_len _ _ hcs
         have htt := TI.of_ok ht t (TI_ne (by omega))
         have hd := repCs_take (TI.of T t).size _ _ (repCs_drop off _ _ hcs)
         refine ⟨_, avOf_rep hd (fun hg => by simp; have := htt.one hg; omega), (fun q e => by cases e), (fun b' t' e => ?_)⟩
         cases e
         refine ⟨_, e2, run_loadVar_cells htt (by simp; omega) (fun j u hu => ?_)⟩
         rw [cell_at e4]
         rw [List.getElem?_take] at hu
         split at hu
         · rwa [List.getElem?_drop] at hu
         · cases hu
       · exact hp.elim
     · rename_i cs hm
       split at hp
       · rename_i hle
         rw [if_pos hle]
         unfold repA repC at hs
         obtain ⟨hn, bl, e1, e2⟩ := hs
         have hb := h.mm.blk id
         rw [hm] at hb
         obtain ⟨b', vs, e3, hcs, hca⟩ := hb
         simp only [rx] at e1 e3 hca
         rw [e1] at e3; simp at e3; subst e3
         have hlen := repCs_len _ _ hcs
         have htt := TI.of_ok ht t (TI_ne (by omega))
         have hd := repCs_take (TI.of T t).size _ _ (repCs_drop off _ _ hcs)
         refine ⟨_, avOf_rep hd (fun hg => by simp; have := htt.one hg; omega), (fun q e => by cases e), (fun b' t' e => ?_)⟩
         cases e
         refine ⟨_, e2, run_loadVar_cells htt (by simp; omega) (fun j u hu => ?_)⟩
         rw [List.getElem?_take] at hu
         split at hu
         · rw [List.getElem?_drop] at hu
           have := (hca _ u hu).2
           rwa [Nat.zero_add] at this
         · cases hu
       · exact hp.elim
     · exact hp.elim
   · exact hp.elim

def packV : List Value → Value
 | [v] => v
 | vs => .tuple vs.toArray

theorem rv_run {n : Nat} {a : Act} {s : Slots} {m : Mem} (ht : TabOK P T) (h : RepF cx σ N (sget s) m n a w) (fn : Func) (hp : rvP T s m fn.results.toList) (h4 : fn.results.size ≤ 4) :
 ∃ vs : List Value, vs.length = fn.results.size ∧ (results fn a.tmps).run P w = .ok (packV vs) w ∧ ∀ j v, (j, v) ∈ rvS T s m 0 fn.results.toList → j < vs.length ∧ repA (rx cx σ N m w) v (vs.getD j undef) := by
 have run1 : ∀ r : ResultVar, (rvE T s m r).pre → ∃ v, repA (rx cx σ N m w) (rvE T s m r).r v ∧ ((∃ t, r = .tmp t ∧ a.tmps[t]?.getD undef = v) ∨
  ∃ b t ad, r = .cell b t ∧ a.tmps[b]?.getD undef = .pointer (some ad) ∧ (loadVar t ad).run P w = .ok v w) := by
  intro r hr
  obtain ⟨v, h1, h2, h3⟩ := rv_one ht h r hr
  refine ⟨v, h1, ?_⟩
  cases r with
  | tmp t => exact .inl ⟨t, rfl, by rw [h2 t rfl, Array.getD_eq_getD_getElem?]⟩
  | cell b t =>
    obtain ⟨ad, e1, e2⟩ := h3 b t rfl
    rw [Array.getD_eq_getD_getElem?] at e1
    exact .inr ⟨b, t, ad, rfl, e1, e2⟩
 generalize hrs : fn.results = rs at *
 obtain ⟨l⟩ := rs
 simp only [List.size_toArray] at h4 ⊢
 match l, h4, hp with
 | [], _, _ => exact ⟨[], rfl, by simp [results, hrs, packV], fun j v hv => by simp [rvS] at hv⟩
 | [r1], _, ⟨p1, _⟩ =>
   obtain ⟨v1, q1, s1⟩ := run1 r1 p1
   refine ⟨[v1], rfl, ?_, fun j v hv => ?_⟩
   · rcases s1 with ⟨t1, rfl, e1⟩ | ⟨b1, t1, a1, rfl, e1, l1⟩ <;> simp [results, hrs, packV, asAddr, *]
   · simp [rvS] at hv; rw [hv.1, hv.2]; exact ⟨by simp, q1⟩
 | [r1, r2], _, ⟨p1, p2, _⟩ =>
   obtain ⟨v1, q1, s1⟩ := run1 r1 p1
   obtain ⟨v2, q2, s2⟩ := run1 r2 p2
   refine ⟨[v1, v2], rfl, ?_, fun j v hv => ?_⟩
   · rcases s1 with ⟨t1, rfl, e1⟩ | ⟨b1, t1, a1, rfl, e1, l1⟩ <;> rcases s2 with ⟨t2, rfl, e2⟩ | ⟨b2, t2, a2, rfl, e2, l2⟩ <;> simp [results, hrs, packV, asAddr, *]
   · simp [rvS] at hv
     rcases hv with ⟨e1, e2⟩ | ⟨e1, e2⟩ <;> rw [e1, e2]
     · exact ⟨by simp, q1⟩
     · exact ⟨by simp, q2⟩
 | [r1, r2, r3], _, ⟨p1, p2, p3, _⟩ =>
   obtain ⟨v1, q1, s1⟩ := run1 r1 p1
   obtain ⟨v2, q2, s2⟩ := run1 r2 p2
   obtain ⟨v3, q3, s3⟩ := run1 r3 p3
   refine ⟨[v1, v2, v3], rfl, ?_, fun j v hv => ?_⟩
   · rcases s1 with ⟨t1, rfl, e1⟩ | ⟨b1, t1, a1, rfl, e1, l1⟩ <;> rcases s2 with ⟨t2, rfl, e2⟩ | ⟨b2, t2, a2, rfl, e2, l2⟩ <;> rcases s3 with ⟨t3, rfl, e3⟩ | ⟨b3, t3, a3, rfl, e3, l3⟩ <;>
      simp [results, hrs, packV, asAddr, *]
   · simp [rvS] at hv
     rcases hv with ⟨e1, e2⟩ | ⟨e1, e2⟩ | ⟨e1, e2⟩ <;> rw [e1, e2]
     · exact ⟨by simp, q1⟩
     · exact ⟨by simp, q2⟩
     · exact ⟨by simp, q3⟩
 | [r1, r2, r3, r4], _, ⟨p1, p2, p3, p4, _⟩ =>
   obtain ⟨v1, q1, s1⟩ := run1 r1 p1
   obtain ⟨v2, q2, s2⟩ := run1 r2 p2
   obtain ⟨v3, q3, s3⟩ := run1 r3 p3
   obtain ⟨v4, q4, s4⟩ := run1 r4 p4
   refine ⟨[v1, v2, v3, v4], rfl, ?_, fun j v hv => ?_⟩
   · rcases s1 with ⟨t1, rfl, e1⟩ | ⟨b1, t1, a1, rfl, e1, l1⟩ <;> rcases s2 with ⟨t2, rfl, e2⟩ | ⟨b2, t2, a2, rfl, e2, l2⟩ <;> rcases s3 with ⟨t3, rfl, e3⟩ | ⟨b3, t3, a3, rfl, e3, l3⟩ <;>
      rcases s4 with ⟨t4, rfl, e4⟩ | ⟨b4, t4, a4, rfl, e4, l4⟩ <;> simp [results, hrs, packV, asAddr, *]
   · simp [rvS] at hv
     rcases hv with ⟨e1, e2⟩ | ⟨e1, e2⟩ | ⟨e1, e2⟩ | ⟨e1, e2⟩ <;> rw [e1, e2]
     · exact ⟨by simp, q1⟩
     · exact ⟨by simp, q2⟩
     · exact ⟨by simp, q3⟩
     · exact ⟨by simp, q4⟩

end
end Go.Ev

/- A body's walk gives a contract. -/
set_option linter.unusedSimpArgs false
set_option linter.unusedVariables false
namespace Go.Ev

section
variable {cx cx' : Cx} {σ σ' : Nat → Value} {N N' : Nat → Prop} {m m' : Mem} {w w' : World} {P : Program} {T : Tab}

/-! ### data moves to another context -/

theorem ro_flat {O O' : Nat → Prop} : ∀ (t : Ty) (y : t.den) (vs : List Value), flat t = true → ro w O t y vs → ro w' O' t y vs
 | .int _, _, _, _, h => h
 | .bool, _, _, _, h => h
 | .str, _, _, _, h => h
 | .unit, _, _, _, h => h
 | .sl _, _, _, hf, _ => by cases hf
 | .pair a b, p, _, hf, ⟨c, d, e, h1, h2⟩ => by
   simp only [flat, Bool.and_eq_true] at hf
   exact ⟨c, d, e, ro_flat a p.1 c hf.1 h1, ro_flat b p.2 d hf.2 h2⟩

/-- Either no memory is behind it, or whoever doesn't own it can tell. -/
def Mv (x y : Rx) (fl : Bool) : Prop := y.w = x.w ∧ (fl = true ∨ ∀ b, y.O b → x.O b)

theorem ro_mv {x y : Rx} {t : Ty} {z : t.den} {vs : List Value} {fl : Bool} (h : Mv x y fl) (hf : fl = true → flat t = true) (hr : ro x.w x.O t z vs) : ro y.w y.O t z vs := by
 rcases h.2 with h1 | h1
 · exact ro_flat t z vs (hf h1) hr
 · exact ro_keep (keepsw h.1 h1) t z vs hr

theorem rep_ro {x : Rx} : ∀ (t : Ty) (z : t.den) (vs : List Value), repCs x (expl t z) vs → ro x.w x.O t z vs
 | .int k, n, vs, h => by
   obtain ⟨v, r, rfl, h1, h2⟩ := repCs_cons.1 h
   rw [repCs_nil.1 h2]; unfold repC at h1; exact ⟨by rw [h1.1], h1.2⟩
 | .bool, b, vs, h => by
   obtain ⟨v, r, rfl, h1, h2⟩ := repCs_cons.1 h
   rw [repCs_nil.1 h2]; unfold repC at h1; rw [h1]; rfl
 | .str, s, vs, h => by
   obtain ⟨v, r, rfl, h1, h2⟩ := repCs_cons.1 h
   rw [repCs_nil.1 h2]; unfold repC at h1; exact ⟨by rw [h1.1], h1.2⟩
 | .unit, _, vs, h => repCs_nil.1 h
 | .sl t, xs, vs, h => by
   obtain ⟨v, r, rfl, h1, h2⟩ := repCs_cons.1 h
   rw [repCs_nil.1 h2]; unfold repC at h1; exact h1.1
 | .pair a b, p, vs, h => by
   have hl := repCs_len _ _ h
   have h1 := repCs_take a.n _ _ h
   have h2 := repCs_drop a.n _ _ h
   simp only [expl] at h1 h2
   rw [List.take_append_of_le_length (by rw [expl_len]; omega), List.take_of_length_le (by rw [expl_len]; omega)] at h1
   rw [List.drop_append_of_le_length (by rw [expl_len]; omega), List.drop_of_length_le (by rw [expl_len]; omega), List.nil_append] at h2
   exact ⟨_, _, (List.take_append_drop a.n vs).symm, rep_ro a p.1 _ h1, rep_ro b p.2 _ h2⟩

theorem repCs_mv {x y : Rx} {t : Ty} {z : t.den} {vs : List Value} {fl : Bool} (h : Mv x y fl) (hf : fl = true → flat t = true) (hr : repCs x (expl t z) vs) : repCs y (expl t z) vs :=
 expl_rep t z vs (ro_mv h hf (rep_ro t z vs hr))

theorem mapRep_mv {x y : Rx} {fl : Bool} (h : Mv x y fl) {kt vt : Ty} {ka va : Bool} (hf : fl = true → flat kt = true ∧ flat vt = true) : ∀ (l : List (kt.den × vt.den)) (es : List MapEntry), mapRep x kt vt ka va l es → mapRep y kt vt ka va l es
 | [], _, k => k
 | _ :: l, _, ⟨e, r, ks, vs, he, e1, k1, e2, k2, k3⟩ => ⟨e, r, ks, vs, he, e1, ro_mv h (fun q => (hf q).1) k1, e2, ro_mv h (fun q => (hf q).2) k2, mapRep_mv h hf l r k3⟩

/-- A result's block, or a parameter's. -/
inductive Good (fl : Bool) : Blk → Prop
 | cells (e : TypeId) (t : Ty) (z : t.den) (h : fl = true → flat t = true) : Good fl (.cells e (expl t z))
 | row (e : TypeId) (t : Ty) (xs : List t.den) (h : fl = true → flat t = true) : Good fl (.row e t xs)
 | mapb (kt vt : Ty) (ka va : Bool) (l : List (kt.den × vt.den)) (h : fl = true → flat kt = true ∧ flat vt = true) : Good fl (.mapb kt vt ka va l)
 | dead : Good fl .dead
 | fb (e : TypeId) (g : FuncId) : Good fl (.cells e [.fn g []])

theorem repB_mv {x y : Rx} {fl : Bool} (h : Mv x y fl) {i j : Nat} (hσ : y.σ j = x.σ i) {B : Blk} (hg : Good fl B) (hr : repB x i B) : repB y j B := by
 cases hg with
 | cells e t z hf =>
   obtain ⟨b, vs, e1, e2, e3, e4⟩ := hr
   exact ⟨b, vs, by rw [hσ]; exact e1, by rw [h.1]; exact e2, repCs_mv h hf e3, e4⟩
 | row e t xs hf =>
   obtain ⟨n, fl', e1, e2, e3⟩ := hr
   exact ⟨n, fl', e1, by rw [h.1, hσ]; exact e2, roAll_mono (fun z vs hz => ro_mv h hf hz) _ _ e3⟩
 | mapb kt vt ka va l hf =>
   obtain ⟨r, es, cl, e1, e2, e3, e4⟩ := hr
   exact ⟨r, es, cl, by rw [hσ]; exact e1, by rw [h.1]; exact e2, mapRep_mv h hf l _ e3, e4⟩
 | dead => trivial
 | fb e g =>
   obtain ⟨b, vs, e1, e2, e3, e4⟩ := hr
   refine ⟨b, vs, by rw [hσ]; exact e1, by rw [h.1]; exact e2, ?_, e4⟩
   obtain ⟨v, r, rfl, g1, g2⟩ := repCs_cons.1 e3
   refine repCs_cons.2 ⟨v, r, rfl, ?_, by rw [repCs_nil.1 g2]; exact repCs_nil.2 rfl⟩
   unfold repC at g1 ⊢
   obtain ⟨us, k1, k2⟩ := g1
   exact ⟨us, k1, by rw [repCs_nil.1 k2]; exact repCs_nil.2 rfl⟩

/-! ### the results -/

def flC (ps : List PK) (rs : List RK) : Bool := rs.all rflat && ps.all pflat

theorem rheap_spec {fl : Bool} : ∀ (ks : List RK) (y : rdens ks) (j : Nat), (fl = true → ks.all rflat = true) → (∀ p ∈ rheap j ks y, j ≤ p.1 ∧ p.1 < j + ks.length ∧ Good fl p.2 ∧ own p.2 = true) ∧ ((rheap j ks y).map (·.1)).Nodup
 | [], _, j, _ => ⟨fun p hp => by simp [rheap] at hp, by simp [rheap]⟩
 | k :: ks, y, j, hf => by
   have hf1 : fl = true → rflat k = true := fun h => by have := hf h; simp at this; exact this.1
   obtain ⟨h1, h2⟩ := rheap_spec (fl := fl) ks y.2 (j + 1) (fun h => by have := hf h; simp at this ⊢; exact this.2)
   have cons : ∀ b, Good fl b → own b = true → (∀ p ∈ (j, b) :: rheap (j + 1) ks y.2, j ≤ p.1 ∧ p.1 < j + (k :: ks).length ∧ Good fl p.2 ∧ own p.2 = true) ∧ (((j, b) :: rheap (j + 1) ks y.2).map (·.1)).Nodup := by
    intro b hb ho
    refine ⟨fun p hp => ?_, ?_⟩
    · rcases List.mem_cons.1 hp with e | e
      · rw [e]; exact ⟨Nat.le_refl _, by simp, hb, ho⟩
      · have := h1 p e
        exact ⟨by omega, by simp; omega, this.2.2⟩
    · rw [List.map_cons, List.nodup_cons]
      refine ⟨fun hm => ?_, h2⟩
      obtain ⟨p, hp, e⟩ := List.mem_map.1 hm
      have := h1 p hp
      omega
   cases k with
   | d ag t =>
     simp only [rheap, rblk]
     exact ⟨fun p hp => by have := h1 p hp; exact ⟨by omega, by simp; omega, this.2.2⟩, h2⟩
   | o e t => exact cons _ (.row e t _ hf1) rfl
   | p e t => exact cons _ (.cells e t _ hf1) rfl
   | cl g e t => exact cons _ (.cells e t _ hf1) rfl
   | mp kt vt ka va => exact cons _ (.mapb kt vt ka va _ (fun h => by have := hf1 h; simpa [rflat] using this)) rfl

theorem cap_good {fl : Bool} : ∀ (ks : List CapK) (y : cdens ks), (fl = true → ks.all cflat = true) → ∀ B ∈ capNbs ks y, Good fl B
 | [], _, _, B, hB => by cases hB
 | k :: ks, y, hf, B, hB => by
   have hf1 : fl = true → cflat k = true := fun h => by have := hf h; simp at this; exact this.1
   rcases List.mem_cons.1 hB with e | e
   · rw [e]
     cases k with
     | p e' t => exact .cells e' t _ hf1
     | fb e' g => exact .fb e' g
     | po e' t => exact .dead
     | bx => exact .dead
   · exact cap_good (fl := fl) ks y.2 (fun h => by have := hf h; simp at this ⊢; exact this.2) B e

theorem nbl_good {fl : Bool} (k : PK) (y : k.den) (hf : fl = true → pflat k = true) : ∀ B ∈ nbl k y, Good fl B := by
 intro B hB
 cases k with
 | d ag t => cases hB
 | p e t => simp [nbl, pbl] at hB; rw [hB]; exact .cells e t _ hf
 | mp kt vt ka va => simp [nbl, pbl] at hB; rw [hB]; exact .mapb kt vt ka va _ (fun h => by have := hf h; simpa [pflat] using this)
 | o e t => simp [nbl, pbl] at hB; rw [hB]; exact .row e t _ hf
 | oc e t => simp [nbl] at hB; rw [hB]; exact .dead
 | pm t kt vt ka va => simp [nbl, pbl] at hB; rw [hB]; exact .mapb kt vt ka va _ (fun h => by have := hf h; simpa [pflat] using this)
 | nl => cases hB
 | bx => simp [nbl, pbl] at hB; rw [hB]; exact .dead
 | cl g ks => exact cap_good ks y hf B hB

theorem tri_good {fl : Bool} : ∀ (ks : List PK) (vs : List AV) (y : dens ks) (i : Nat), (fl = true → ks.all pflat = true) → ∀ t ∈ tri m nbl i ks vs y, Good fl t.2.2
 | [], _, _, _, _, t, ht => by simp [tri] at ht
 | _ :: _, [], _, _, _, t, ht => by simp [tri] at ht
 | k :: ks, v :: vs, y, i, hf, t, ht => by
   have hf1 : fl = true → pflat k = true := fun h => by have := hf h; simp at this; exact this.1
   have rest := tri_good (fl := fl) ks vs y.2 (i + 1) (fun h => by have := hf h; simp at this ⊢; exact this.2)
   simp only [tri, List.mem_append] at ht
   rcases ht with ht | ht
   · unfold zip3 at ht
     exact nbl_good k y.1 hf1 _ (List.of_mem_zip (List.of_mem_zip ht).2).2
   · exact rest t ht

/-- The results, in the caller's eyes. -/
theorem ravs_rep {x y : Rx} {fl : Bool} (h : Mv x y fl) {fr d : Nat} : ∀ (ks : List RK) (z : rdens ks) (i : Nat) (vs : List Value), (fl = true → ks.all rflat = true) → (∀ q, q < ks.length → ¬ y.N (fr + i + q) ∧ y.σ (fr + i + q) = x.σ (d + i + q)) →
 (∀ j v, (j, v) ∈ rslots i (d + i) ks z → j < vs.length ∧ repA x v (vs.getD j undef)) → i + ks.length = vs.length → repAs y (ravs (fr + i) ks z) (vs.drop i)
 | [], z, i, vs, _, _, _, hl => by
   simp only [ravs]
   unfold repAs
   simp at hl; rw [List.drop_of_length_le (by omega)]
 | k :: ks, z, i, vs, hf, hN, hr, hl => by
   have hf1 : fl = true → rflat k = true := fun h => by have := hf h; simp at this; exact this.1
   have g1 := ravs_rep (d := d) h ks z.2 (i + 1) vs (fun h => by have := hf h; simp at this ⊢; exact this.2)
    (fun q hq => by have := hN (q + 1) (by simp; omega); rw [show fr + (i + 1) + q = fr + i + (q + 1) by omega, show d + (i + 1) + q = d + i + (q + 1) by omega]; exact this)
    (fun j v hv => hr j v (by simp only [rslots]; exact List.mem_cons_of_mem _ (by rw [show d + i + 1 = d + (i + 1) by omega]; exact hv))) (by simp at hl; omega)
   obtain ⟨hlt, h0⟩ := hr i (rav (d + i) k z.1) (by simp [rslots])
   obtain ⟨hn, hs⟩ := hN 0 (by simp)
   simp only [Nat.add_zero] at hn hs
   have e : vs.drop i = vs.getD i undef :: vs.drop (i + 1) := by
    rw [List.drop_eq_getElem_cons hlt]; simp [List.getD, hlt]
   have key : repA y (rav (fr + i) k z.1) (vs.getD i undef) := by
    cases k with
    | d ag t =>
      simp only [rav] at h0 ⊢
      unfold avOf at h0 ⊢
      cases ag with
      | true =>
        simp only [if_true] at h0 ⊢
        unfold repA at h0 ⊢
        obtain ⟨us, e1, e2⟩ := h0
        exact ⟨us, e1, repCs_mv h hf1 e2⟩
      | false =>
        simp only [Bool.false_eq_true, if_false] at h0 ⊢
        split at h0
        · rename_i c hc
          unfold repA at h0 ⊢
          have := repCs_mv (t := t) (z := z.1) h hf1 (vs := [vs.getD i undef]) (by rw [hc]; exact repCs_cons.2 ⟨_, _, rfl, h0, repCs_nil.2 rfl⟩)
          rw [hc] at this
          obtain ⟨v, r, e1, e2, _⟩ := repCs_cons.1 this
          cases e1; exact e2
        · rename_i hne
          unfold repA repC; trivial
    | o e' t =>
      simp only [rav] at h0 ⊢
      unfold repA repC at h0 ⊢
      exact ⟨hn, by rw [hs]; exact h0.2⟩
    | p e' t =>
      simp only [rav] at h0 ⊢
      unfold repA repC at h0 ⊢
      obtain ⟨_, b, e1, e2⟩ := h0
      exact ⟨hn, b, by rw [hs]; exact e1, e2⟩
    | cl g e' t =>
      simp only [rav] at h0 ⊢
      unfold repA repC at h0 ⊢
      obtain ⟨us, e0, h0⟩ := h0
      obtain ⟨v, r, e3, h0, h5⟩ := repCs_cons.1 h0
      unfold repC at h0
      obtain ⟨_, b, e1, e2⟩ := h0
      refine ⟨us, e0, ?_⟩
      rw [e3, repCs_nil.1 h5]
      refine repCs_cons.2 ⟨v, [], rfl, ?_, repCs_nil.2 rfl⟩
      unfold repC
      exact ⟨hn, b, by rw [hs]; exact e1, e2⟩
    | mp kt vt ka va =>
      simp only [rav] at h0 ⊢
      unfold repA repC at h0 ⊢
      exact ⟨hn, by rw [hs]; exact h0.2⟩
   rw [e]
   simp only [ravs]
   unfold repAs
   exact ⟨_, _, rfl, key, by rw [show fr + i + 1 = fr + (i + 1) by omega]; exact g1⟩

def rvalid : List RK → Bool
 | [] => true
 | .d false t :: ks => decide (t.n = 1) && rvalid ks
 | _ :: ks => rvalid ks

theorem rwf_of {x : Rx} : ∀ (ks : List RK) (z : rdens ks) (i j : Nat) (vs : List Value), rvalid ks = true → (∀ q v, (q, v) ∈ rslots i j ks z → repA x v (vs.getD q undef)) → (∀ p ∈ rheap j ks z, repB x p.1 p.2) → rwf ks z
 | [], _, _, _, _, _, _, _ => trivial
 | k :: ks, z, i, j, vs, hv, hr, hb => by
   have h0 := hr i (rav j k z.1) (by simp [rslots])
   have rest : rvalid ks = true → rwf ks z.2 := fun hv' => rwf_of ks z.2 (i + 1) (j + 1) vs hv' (fun q v hq => hr q v (by simp [rslots, hq])) (fun p hp => hb p (by simp only [rheap]; cases rblk k z.1 <;> simp [hp]))
   cases k with
   | d ag t =>
     simp only [rav, avOf] at h0
     cases ag with
     | true =>
       simp only [if_true] at h0
       unfold repA at h0
       obtain ⟨us, _, h1⟩ := h0
       exact ⟨ro_wf t _ us (rep_ro t _ us h1), rest hv⟩
     | false =>
       simp only [rvalid, Bool.and_eq_true, decide_eq_true_eq] at hv
       have hl := expl_len t z.1
       rw [hv.1] at hl
       match hx : expl t z.1, hl with
       | [c], _ =>
         simp only [hx, Bool.false_eq_true, if_false] at h0
         unfold repA at h0
         exact ⟨ro_wf t _ [vs.getD i undef] (rep_ro t _ _ (by rw [hx]; exact repCs_cons.2 ⟨_, _, rfl, h0, repCs_nil.2 rfl⟩)), rest hv.2⟩
   | o e t =>
     have := hb (j, .row e t z.1) (by simp [rheap, rblk])
     obtain ⟨n, fl, e1, e2, e3⟩ := this
     refine ⟨⟨?_, fun y hy => ?_⟩, rest hv⟩
     · rcases e2.2 with ⟨g2, _⟩ | ⟨g, cap, cur, _, g1, g2, g3, g4, _⟩
       · show List.length z.1 ≤ _; rw [← e1, g2]; simp [maxLen]
       · show List.length z.1 ≤ _; omega
     · obtain ⟨c, hc⟩ := roAll_mem _ _ e3 y hy
       exact ro_wf t y c hc
   | p e t =>
     have := hb (j, .cells e (expl t z.1)) (by simp [rheap, rblk])
     obtain ⟨b, us, _, _, h1, _⟩ := this
     exact ⟨ro_wf t _ us (rep_ro t _ us h1), rest hv⟩
   | cl g e t =>
     have := hb (j, .cells e (expl t z.1)) (by simp [rheap, rblk])
     obtain ⟨b, us, _, _, h1, _⟩ := this
     exact ⟨ro_wf t _ us (rep_ro t _ us h1), rest hv⟩
   | mp => exact ⟨trivial, rest hv⟩

end
end Go.Ev
