/- Part. -/
import Derived.Test.YtkjpbhkldioggaaGreatEvOps10ToOps11
namespace Go.Ev
section
variable {cx : Cx} {σ : Nat → Value} {N : Nat → Prop} {m : Mem} {w : World} {P : Program} {T : Tab} {G : Env} {o : Oper} {fr : Nat} {ρ : Operand → Value} {av : Operand → AV}
theorem zeros_list (z : Array Value) (k : Nat) (hk : z.size = k) : ∀ n, (List.range (n * k)).map (fun i => z[i % k]!) = (List.replicate n z.toList).flatten
 | 0 => by simp
 | n + 1 => by
   rw [List.replicate_succ', List.flatten_append, ← zeros_list z k hk n, Nat.add_mul, Nat.one_mul, List.range_add, List.map_append]; congr 1; rw [List.map_map]; simp only [List.flatten_cons, List.flatten_nil, List.append_nil]; apply List.ext_getElem
   · simp [hk]
   · intro j h1 h2; simp at h1; simp only [List.getElem_map, Function.comp, List.getElem_range, Array.getElem_toList]; rw [show (n * k + j) % k = j by rw [Nat.add_comm, Nat.mul_comm, Nat.add_mul_mod_self_left]; exact Nat.mod_eq_of_lt h1]; exact getElem!_pos z j (by omega)
theorem roAll_zeros {O : Nat → Prop} {t : Ty} {x : t.den} {vs : List Value} (h : ro w O t x vs) : ∀ n, roAll (ro w O t) (List.replicate n x) (List.replicate n vs).flatten
 | 0 => by simp [roAll]
 | n + 1 => by
   simp only [List.replicate_succ, List.flatten_cons]; exact ⟨_, _, rfl, h, roAll_zeros h n⟩
theorem zero_cells (ht : TabOK P T) {e : TypeId} {u : Ty} (hty : (TI.of T e).ty = some u) (hzt : (TI.of T e).zt = true) {O : Nat → Prop} :
 ∃ i z, P.info? e = some i ∧ i.zero = some z ∧ i.size = u.n ∧ i.bytes = (TI.of T e).bytes ∧ z.cells.size = u.n ∧ 0 < u.n ∧ 0 < i.bytes ∧ ro w O u u.dflt z.cells.toList := by
 have hte := TI.of_ok ht e (fun k => by rw [k] at hty; cases hty); obtain ⟨i, hi, hs, hby, z, hz, hzs, _⟩ := hte.info; obtain ⟨hun, hpos, hbp⟩ := hte.ty u hty; obtain ⟨i', vs, hi', hz', hzt'⟩ := hte.zt u hzt hty; rw [hi] at hi'; cases hi'; rw [hz] at hz'; cases hz'; have hro := zTy_ro (w := w) (O := O) u vs hzt'; have hl := ro_len u _ _ hro; refine ⟨i, _, hi, hz, by omega, hby, by rw [hzs, hun], by omega, by omega, ?_⟩; have e1 : (mkV (TI.of T e).agg vs).cells.toList = vs := by
  unfold mkV at hzs ⊢
  cases hag : (TI.of T e).agg with
  | true => simp [Value.cells]
  | false =>
    have h1 : vs.length = 1 := by have := hte.one hag; omega
    match vs, h1 with
    | [v], _ =>
      have := ro_one u _ _ hro v (by simp); simp only [Bool.false_eq_true, if_false, List.getD_cons_zero]; cases v <;> first | rfl | (simp [Value.oneCell'] at this)
 rw [e1]; exact hro
theorem s_makeSlice (h : RepM cx σ N m w) (hfr : ∀ id, fr ≤ id → id < fr + 32 → N id) {t : TypeId} {x y : Operand} (ho : o.op = .makeSlice t x y) (ht : TabOK P T) (hx : repA (rx cx σ N m w) (av x) (ρ x)) (hy : repA (rx cx σ N m w) (av y) (ρ y))
 (hp : (opEff T G o [av x, av y] m fr).pre) : Runs P w (Res cx σ N m w fr (opEff T G o [av x, av y] m fr)) ((execOp ρ o).run P w) := by
 simp only [opEff, ho] at hp ⊢; split at hp <;> rename_i heq
 · rename_i e n c hd; simp only [List.cons.injEq, and_true] at heq; rw [heq.1] at hx; rw [heq.2] at hy; split at hp
   · rename_i u hty; split at hp
     · rename_i hzt; rw [if_pos hzt]; obtain ⟨p1, p2, p3⟩ := hp; have hst := (TI.of_ok ht t (fun k => by rw [k] at hd; cases hd)).slice e hd; obtain ⟨i, z, hi, hz, hs, hby, hzs, hun, hbp, hro⟩ := zero_cells (w := w) (O := Owned cx σ m) ht hty hzt; obtain ⟨ex, _⟩ := of_int hx; obtain ⟨ey, _⟩ := of_int hy; have hn63 : c.toNat ≤ maxLen := by
        have : c * 1 ≤ c * (TI.of T e).bytes := Int.mul_le_mul_of_nonneg_left (by omega) (by omega); simp only [maxLen]; omega
       have hbytes : (i.bytes : Int) * c ≤ 281474976710656 := by rw [hby, Int.mul_comm]; omega
       have hrun := run_make (P := P) w t e i z hst hi hz .i64 .i64 n c p1 p2 hbytes (by simp [maxLen] at hn63; omega); have hcells : (madeCells z.cells (c.toNat * i.size)).toList = (List.replicate c.toNat z.cells.toList).flatten := by
        rw [← zeros_list z.cells u.n hzs c.toNat]; unfold madeCells; rw [Array.toList_map, Array.toList_range, hs, hzs]
       have hfl := roAll_zeros hro n.toNat; have hlen := roAll_len (fun x c => ro_len u x c) _ _ hfl; simp only [List.length_replicate] at hlen; have hnc : n.toNat ≤ c.toNat := by omega
       have hsplit : (List.replicate c.toNat z.cells.toList).flatten = (List.replicate n.toNat z.cells.toList).flatten ++ (List.replicate (c.toNat - n.toNat) z.cells.toList).flatten := by
        rw [← List.flatten_append, List.replicate_append_replicate]; congr 2; omega
       have := fresh_row (fr := fr) (e := e) (t := u) (xs := List.replicate n.toNat u.dflt) (cap := c.toNat) (p := 0 ≤ n ∧ n ≤ c ∧ c * (TI.of T e).bytes ≤ 140737488355328) (q := True) (u0 := []) ⟨Keep.refl _ _, fun _ _ => rfl, fun _ h => h⟩ h (hfr fr (by omega) (by omega)) (fun id hid _ => hid)
        (alloc_world w _) (heap_alloc_new w (.cells (madeCells z.cells (c.toNat * i.size)) e)) hfl (by simpa using hnc) hn63 (by rw [size_madeCells, hs]) (by rw [hcells, List.length_replicate, ← hlen, hsplit]; exact List.take_left) trivial rfl
       simp only [List.length_replicate] at this; refine runs_value ?_ this; simp only [execOp, ho, ex, ey, hrun, Sem.run_bind, Result.andThen_ok, Sem.run_pure]
     · exact hp.elim
   · exact hp.elim
 · exact hp.elim
theorem winOf_some {e : TypeId} {t : Ty} {d : C1} {id lo len : Nat} {xs : List t.den} (h : RepM cx σ N m w) (hw : winOf m e t d = some (id, lo, len, xs)) {v : Value} (hd : repC (rx cx σ N m w) d v) :
 m id = .row e t xs ∧ lo + len ≤ xs.length ∧ repC (rx cx σ N m w) (.win id t.n lo len) v := by
 unfold winOf at hw; split at hw
 · rename_i id'; split at hw
   · rename_i e' u ys hm; split at hw
     · rename_i he; subst he
       cases hc : castTy u t ys with
       | none => rw [hc] at hw; cases hw
       | some zs =>
         rw [hc] at hw; obtain ⟨e1, rfl⟩ := castTy_eq hc; subst e1; simp only [Option.map_some, Option.some.injEq, Prod.mk.injEq] at hw; obtain ⟨rfl, rfl, rfl, rfl⟩ := hw; refine ⟨hm, by simp, ?_⟩; have hb := h.blk id'; rw [hm] at hb; obtain ⟨a, cap, flat, g1, g2, g3, g4, g5⟩ := row_read hb; unfold repC at hd ⊢; obtain ⟨hn, rfl⟩ := hd; simp only [rx] at hn ⊢; refine ⟨hn, a, ys.length, cap, a, g1, by omega, g2, by rw [Nat.sub_zero]; exact g1, fun hc => ?_⟩
         rcases g5 with ⟨rfl, _⟩ | ⟨b, rfl, _⟩
         · omega
         · exact ⟨b, rfl, by rw [Nat.zero_mul]⟩
     · cases hw
   · cases hw
 · rename_i id' sz lo' len'; split at hw
   · rename_i e' u ys hm; split at hw
     · rename_i he; obtain ⟨rfl, rfl, hll⟩ := he
       cases hc : castTy u t ys with
       | none => rw [hc] at hw; cases hw
       | some zs =>
         rw [hc] at hw; obtain ⟨e1, rfl⟩ := castTy_eq hc; subst e1; simp only [Option.map_some, Option.some.injEq, Prod.mk.injEq] at hw; obtain ⟨rfl, rfl, rfl, rfl⟩ := hw; exact ⟨hm, hll, hd⟩
     · cases hw
   · cases hw
 · cases hw
theorem same_row {id : Nat} {e : TypeId} {u : Ty} {xs : List u.den} (hm : m id = .row e u xs) : upd m id (.row e u xs) = m := by
 funext i; unfold upd; split
 · rename_i e; rw [← e]; exact hm.symm
 · rfl
theorem put_res (h : RepM cx σ N m w) {id : Nat} {B : Blk} {w' : World} (hsz : w.heap.size ≤ w'.heap.size) (k4 : RepM cx σ N (upd m id B) w') (k5 : Rx.Keeps (rx cx σ N m w) (rx cx σ N (upd m id B) w')) {r : AV} {v : Value} (hr : ∀ x, repA x r v) (p : Prop) :
 Res cx σ N m w fr ⟨p, r, [(id, B)], True⟩ v w' := by
 obtain ⟨g3, g4⟩ := k4.weaken (N' := Nx N fr) (fun _ k => k.1); exact ⟨σ, g3, ⟨k5.k.trans g4.k (by simpa [rx] using hsz), fun _ _ => rfl, fun _ k => k.1⟩, hr _, trivial⟩
theorem s_copy (h : RepM cx σ N m w) {x y : Operand} {ts : Array TypeId} (ho : o.op = .call { callee := .builtin .copy, args := #[x, y], argTypes := ts }) (ht : TabOK P T) (hx : repA (rx cx σ N m w) (av x) (ρ x)) (hy : repA (rx cx σ N m w) (av y) (ρ y))
 (hp : (builtinE T .copy ts [av x, av y] m fr).pre) : Runs P w (Res cx σ N m w fr (builtinE T .copy ts [av x, av y] m fr)) ((execOp ρ o).run P w) := by
 simp only [builtinE] at hp ⊢; split at hp <;> rename_i heq
 · rename_i d s; simp only [List.cons.injEq, and_true] at heq; rw [heq.1] at hx; rw [heq.2] at hy; unfold repA at hx hy; split at hp
   · rename_i t t2 hts; have hts' : ts = #[t, t2] := by rw [← Array.toArray_toList (xs := ts), hts]
     subst hts'; split at hp
     · rename_i e hd; split at hp
       · rename_i u hty; split at hp
         · rename_i ys hv; have hu := (TI.of_ok ht t (fun k => by rw [k] at hd; cases hd)).slice e hd; have hte := TI.of_ok ht e (fun k => by rw [k] at hty; cases hty); obtain ⟨i, hi, hs, _⟩ := hte.info; obtain ⟨hun, hpos, _⟩ := hte.ty u hty; obtain ⟨a, n, cap, flat, e1, rfl, hlc, hcm, hfl, hax⟩ := view_read h hv hy; unfold copyE at hp ⊢; split at hp
           · rename_i id lo len xs hw; obtain ⟨hm, hll, hwin⟩ := winOf_some h hw hx; have hb := h.blk id; rw [hm] at hb; obtain ⟨a2, cap2, flat2, g1, g2, g3, g4, g5⟩ := row_read hb; obtain ⟨q1, q2, a', q3, q4⟩ := win_read hwin (by simp only [rx]; exact g1); have hkm : Nat.min ys.length len = min len ys.length := Nat.min_comm _ _; by_cases hk : min len ys.length = 0
             · -- nothing is copied
               have hrun : (execOp ρ o).run P w = .ok (.value (goInt 0)) w := by
                rw [call_builtin ho]; cases a <;> cases a' <;> simp [builtin, Builtin.copy_, run_underlying hu, e1, q3, Builtin.lenOf, Builtin.firstCells, sizeOf, typeInfo, hi, hkm, hk, storeCells, loadCells, loadCellsFrom]
               have hid : xs.take lo ++ (ys.take 0 ++ xs.drop (lo + 0)) = xs := by simp
               rw [hk, hid]; refine runs_value hrun (put_res h (Nat.le_refl _) (by rw [same_row hm]; exact h) (by rw [same_row hm]; exact ⟨Keep.refl _ _, fun _ _ => rfl, fun _ h => h⟩) (fun x => repA_int (in_len (Nat.zero_le _))) True)
             · have hfl' : ∃ us, roAll (ro w (Owned cx σ m) u) (ys.take (min len ys.length)) us ∧ ∃ rest, flat = us ++ rest := by
                obtain ⟨us, rest, r1, r2, _⟩ := roAll_split (ys.take (min len ys.length)) (ys.drop (min len ys.length)) flat (by rw [List.take_append_drop]; exact hfl); exact ⟨us, r2, rest, r1⟩
               obtain ⟨us, hus, rest, rfl⟩ := hfl'; have hul := roAll_len (fun x c => ro_len u x c) _ _ hus; have htl : (ys.take (min len ys.length)).length = min len ys.length := by rw [List.length_take]; omega
               rw [htl] at hul; obtain ⟨b, cp, w', k1, k2, k3, k4, k4', k5, k6⟩ := win_put (P := P) (off := 0) (ys := ys.take (min len ys.length)) h hm hwin (by omega) (by omega) hus (by omega); rw [Nat.zero_mul, Nat.add_zero] at k4; rw [Nat.add_zero, htl] at k5 k6
               rcases hax with ⟨_, h0⟩ | ⟨bx, qx, rfl, hcx⟩
               · have : us.length = 0 := by simp at h0; simp [h0.1]
                 have : 0 < min len ys.length * u.n := Nat.mul_pos (by omega) (by omega); omega
               · have hfc := run_firstCells_some (P := P) w i.size (min len ys.length) ⟨bx, qx, none⟩ ys.length cap us (by rw [hul, hs, hun]) (fun j v hv => by
                  rw [add_none]; exact hcx j v (by rw [List.getElem?_append_left (List.getElem?_eq_some_iff.1 hv).1]; exact hv))
                 have hrun : (execOp ρ o).run P w = .ok (.value (goInt ((min len ys.length : Nat) : Int))) w' := by
                  rw [call_builtin ho]; simp [builtin, Builtin.copy_, run_underlying hu, e1, k1, Builtin.lenOf, sizeOf, typeInfo, hi, hkm, hfc, k4]
                  try (congr 1; omega)
                 refine runs_value hrun (put_res h k4' k5 k6 (fun x => repA_int (in_len (n := min len ys.length) (by omega))) True)
           · exact hp.elim
         · exact hp.elim
       · exact hp.elim
     · exact hp.elim
   · exact hp.elim
 · exact hp.elim
theorem s_clear (h : RepM cx σ N m w) {x : Operand} {ts : Array TypeId} (ho : o.op = .call { callee := .builtin .clear, args := #[x], argTypes := ts }) (ht : TabOK P T) (hx : repA (rx cx σ N m w) (av x) (ρ x))
 (hp : (builtinE T .clear ts [av x] m fr).pre) : Runs P w (Res cx σ N m w fr (builtinE T .clear ts [av x] m fr)) ((execOp ρ o).run P w) := by
 simp only [builtinE] at hp ⊢; split at hp <;> rename_i heq
 · rename_i d; simp only [List.cons.injEq, and_true] at heq; rw [heq] at hx; unfold repA at hx; split at hp
   · rename_i t hts; have hts' : ts = #[t] := by rw [← Array.toArray_toList (xs := ts), hts]
     subst hts'; split at hp
     · rename_i e hd; split at hp
       · rename_i u hty; split at hp
         · rename_i hzt; rw [if_pos hzt]; have hu := (TI.of_ok ht t (fun k => by rw [k] at hd; cases hd)).slice e hd; obtain ⟨i, z, hi, hz, hs, hby, hzs, hun, hbp, hro⟩ := zero_cells (w := w) (O := Owned cx σ m) ht hty hzt; unfold clearE at hp ⊢; split at hp
           · rename_i id lo len xs hw; obtain ⟨hm, hll, hwin⟩ := winOf_some h hw hx; have hb := h.blk id; rw [hm] at hb; obtain ⟨a2, cap2, flat2, g1, g2, g3, g4, g5⟩ := row_read hb; obtain ⟨q1, q2, a', q3, q4⟩ := win_read hwin (by simp only [rx]; exact g1); by_cases hk : len = 0
             · subst hk; have hrun : (execOp ρ o).run P w = .ok (.value (.tuple #[])) w := by
                rw [call_builtin ho]; cases a' <;> simp [builtin, Builtin.clear_, run_underlying hu, q3]
               have hid : xs.take lo ++ (List.replicate 0 u.dflt ++ xs.drop (lo + 0)) = xs := by simp
               rw [hid]; refine runs_value hrun (put_res h (Nat.le_refl _) (by rw [same_row hm]; exact h) (by rw [same_row hm]; exact ⟨Keep.refl _ _, fun _ _ => rfl, fun _ h => h⟩) (fun x => by unfold repA repC; trivial) True)
             · have hus := roAll_zeros hro len; obtain ⟨b, cp, w', k1, k2, k3, k4, k4', k5, k6⟩ := win_put (P := P) (off := 0) (ys := List.replicate len u.dflt) h hm hwin hun (by simp; omega) hus (by simp; omega); rw [Nat.zero_mul, Nat.add_zero] at k4; rw [Nat.add_zero, List.length_replicate] at k5 k6; have hzc : (Builtin.zeroCells z.cells len).toList = (List.replicate len z.cells.toList).flatten := by
                rw [← zeros_list z.cells u.n hzs len]; unfold Builtin.zeroCells; rw [Array.toList_map, Array.toList_range, hzs]
               have hzv : (zeroValue e).run P w = .ok z w := run_zeroValue hi hz; have hrun : (execOp ρ o).run P w = .ok (.value (.tuple #[])) w' := by
                rw [call_builtin ho]; obtain ⟨l', rfl⟩ : ∃ l', len = l' + 1 := ⟨len - 1, by omega⟩; simp [builtin, Builtin.clear_, run_underlying hu, k1, hzv, hzc, k4]
               refine runs_value hrun (put_res h k4' k5 k6 (fun x => by unfold repA repC; trivial) True)
           · exact hp.elim
         · exact hp.elim
       · exact hp.elim
     · exact hp.elim
   · exact hp.elim
 · exact hp.elim
end
end Go.Ev

namespace Go.Ev
section
variable {cx : Cx} {σ : Nat → Value} {N : Nat → Prop} {m : Mem} {w : World} {P : Program} {T : Tab} {G : Env} {o : Oper} {fr : Nat} {ρ : Operand → Value} {av : Operand → AV}
theorem hset_get {α : Type} {l : List α} {j : Nat} {x : α} (hj : j ≤ l.length) (i : Nat) : (hset l j x)[i]? = if i = j then some x else l[i]? := by
 unfold hset; split
 · rename_i h; rw [List.getElem?_set]; by_cases hi : j = i
   · subst hi; simp [h]
   · rw [if_neg hi, if_neg (fun e => hi e.symm)]
 · rename_i h; have hjl : j = l.length := by omega
   rw [List.getElem?_append]; by_cases hi : i = j
   · subst hi; rw [hjl]; simp
   · rw [if_neg hi]; split
     · rfl
     · rename_i h2; rw [List.getElem?_eq_none (by simp; omega), List.getElem?_eq_none (by omega)]
theorem hset_len {α β : Type} {l : List α} {l' : List β} {j : Nat} {x : α} {y : β} (h : l.length = l'.length) : (hset l j x).length = (hset l' j y).length := by
 unfold hset; rw [h]; split <;> simp [h]
theorem nil_blk {b : Nat} : blkOf (.slice none 0 0) ≠ some b := by simp [blkOf]
theorem lend (h : RepM cx σ N m w) (hfr : ∀ id, fr ≤ id → id < fr + 32 → N id) {id fid : Nat} {kt : Ty} {ka : Bool} {ks ks' : List kt.den} {e : TypeId} {u : Ty} {xss : List (List u.den)} (hm : m id = .mapg kt ka fid ks none) (hf : m fid = .fam e u xss) (hn : ¬ N id)
 {r : Nat} {es es' : Array MapEntry} {f : Fn} {vs : Array Value} (b1 : σ id = .map (some r)) (b2 : w.heap[r]? = some (.map es ks.length)) (b3 : ¬ N fid) (b4 : σ fid = .func f #[] vs) (c2 : famRep (rx cx σ N m w) e u xss vs.toList)
 {j : Nat} (hj : j ≤ xss.length) {v : Value} (hv : (v = .slice none 0 0 ∧ xss.getD j [] = []) ∨ (vs.toList[j]? = some v ∧ xss[j]? = some (xss.getD j [])))
 (hmap : ∀ y : Rx, (rx cx σ N m w).Keeps y → mapgRep y kt ka (some j) ks' es'.toList (hset vs.toList j (.slice none 0 0))) :
 ∃ σ', RepM cx σ' (Nx N fr) (updM m [(fid, .dead), (id, .mapg kt ka (fr + 1) ks' (some j)), (fr + 1, .fam e u (hset xss j [])), (fr, .row e u (xss.getD j []))]) { w with heap := w.heap.setIfInBounds r (.map es' ks'.length) } ∧
   Rx.Keeps (rx cx σ N m w) (rx cx σ' (Nx N fr) (updM m [(fid, .dead), (id, .mapg kt ka (fr + 1) ks' (some j)), (fr + 1, .fam e u (hset xss j [])), (fr, .row e u (xss.getD j []))]) { w with heap := w.heap.setIfInBounds r (.map es' ks'.length) }) ∧ σ' fr = v := by
 obtain ⟨f1, f2⟩ := MapKept.heap_set (o' := .map es' ks'.length) b2; have n0 : N fr := hfr fr (by omega) (by omega); have n1 : N (fr + 1) := hfr (fr + 1) (by omega) (by omega); have hne1 : id ≠ fid := fun k => by rw [k, hf] at hm; cases hm
 have hne2 : id ≠ fr := fun k => hn (k ▸ n0); have hne3 : id ≠ fr + 1 := fun k => hn (k ▸ n1); have hne4 : fid ≠ fr := fun k => b3 (k ▸ n0); have hne5 : fid ≠ fr + 1 := fun k => b3 (k ▸ n1); have hne6 : fr + 1 ≠ fr := by omega
 have hvl : vs.toList.length = xss.length := c2.len; have hG := fun i => hset_get (l := vs.toList) (x := Value.slice none 0 0) (by rw [hvl]; exact hj) i; have hX := fun i => hset_get (l := xss) (x := ([] : List u.den)) hj i; have v1 : v.oneCell' = true := by
  rcases hv with ⟨rfl, _⟩ | ⟨h1, h2⟩
  · rfl
  · exact (c2.row j _ v h2 h1).1
 have ofid : own (m fid) = true := by rw [hf]; rfl
 have oid : own (m id) = true := by rw [hm]; rfl
 have hbf : ∀ (i : Nat) u b, vs.toList[i]? = some u → blkOf u = some b → hb (σ fid) b := fun i u b hu hb => by rw [b4]; exact hb_fam.2 ⟨u, List.mem_of_getElem? hu, hb⟩
 have hvb : ∀ b, hb v b → vs.toList[j]? = some v ∧ blkOf v = some b := fun b hb => by
  rcases hv with ⟨rfl, _⟩ | ⟨h1, h2⟩
  · exact absurd (hb_slice.1 hb) nil_blk
  · obtain ⟨a, c, e1, _⟩ := fam_val c2 h1; exact ⟨h1, by rw [e1] at hb ⊢; exact hb_slice.1 hb⟩
 have hfb : ∀ b, hb (.func (.func 0) #[] (hset vs.toList j (.slice none 0 0)).toArray) b → ∃ (i : Nat) (u : Value), i ≠ j ∧ vs.toList[i]? = some u ∧ blkOf u = some b := fun b hb => by
  rw [hb_fam] at hb; obtain ⟨u, hu, hub⟩ := hb; obtain ⟨i, hi, rfl⟩ := List.getElem_of_mem hu; have hi2 := List.getElem?_eq_getElem hi; simp only [List.toList_toArray] at hi2 hi hub; rw [hG i] at hi2; by_cases hij : i = j
  · rw [if_pos hij] at hi2; simp only [Option.some.injEq] at hi2; rw [← hi2] at hub; exact absurd hub nil_blk
  · rw [if_neg hij] at hi2; exact ⟨i, _, hij, hi2, hub⟩
 let m' : Mem := upd (upd (upd (upd m fid .dead) id (.mapg kt ka (fr + 1) ks' (some j))) (fr + 1) (.fam e u (hset xss j []))) fr (.row e u (xss.getD j []))
 let σ' : Nat → Value := upd (upd σ (fr + 1) (.func (.func 0) #[] (hset vs.toList j (.slice none 0 0)).toArray)) fr v
 have m1 : m' fid = .dead := by simp only [m']; rw [upd_ne _ _ hne4, upd_ne _ _ hne5, upd_ne _ _ (fun k => hne1 k.symm), upd_same]
 have m2 : m' id = .mapg kt ka (fr + 1) ks' (some j) := by simp only [m']; rw [upd_ne _ _ hne2, upd_ne _ _ hne3, upd_same]
 have m3 : m' (fr + 1) = .fam e u (hset xss j []) := by simp only [m']; rw [upd_ne _ _ hne6, upd_same]
 have m4 : m' fr = .row e u (xss.getD j []) := upd_same _ _ _; have m5 : ∀ i, i ≠ id → i ≠ fid → i ≠ fr → i ≠ fr + 1 → m' i = m i := fun i h1 h2 h3 h4 => by simp only [m']; rw [upd_ne _ _ h3, upd_ne _ _ h4, upd_ne _ _ h1, upd_ne _ _ h2]
 have s1 : σ' fr = v := upd_same _ _ _; have s2 : σ' (fr + 1) = .func (.func 0) #[] (hset vs.toList j (.slice none 0 0)).toArray := by simp only [σ']; rw [upd_ne _ _ hne6, upd_same]
 have s3 : ∀ i, i ≠ fr → i ≠ fr + 1 → σ' i = σ i := fun i h1 h2 => by simp only [σ']; rw [upd_ne _ _ h1, upd_ne _ _ h2]
 obtain ⟨k1, k2⟩ := h.step (σ' := σ') (N' := Nx N fr) (m' := m') (w' := { w with heap := w.heap.setIfInBounds r (.map es' ks'.length) }) (fun i => i = id ∨ i = fid ∨ i = fr ∨ i = fr + 1) (fun i k => k.1)
  (fun i k => by
    have h1 : i ≠ fr := fun e => k.2 ⟨by omega, by omega⟩; have h2 : i ≠ fr + 1 := fun e => k.2 ⟨by omega, by omega⟩; have h3 : i ≠ id := fun e => hn (e ▸ k.1); have h4 : i ≠ fid := fun e => b3 (e ▸ k.1); rw [m5 i h3 h4 h1 h2]; exact h.fresh i k.1)
  (fun i k => by simp only [not_or] at k; exact ⟨m5 i k.1 k.2.1 k.2.2.1 k.2.2.2, s3 i k.2.2.1 k.2.2.2⟩)
  (fun i k => s3 i (fun e => k (e ▸ n0)) (fun e => k (e ▸ n1)))
  (fun b _ hx => f2 b (fun e => hx id (.inl rfl) oid (by rw [b1, e]; exact .inl rfl))) ⟨by simp, Nat.le_refl _⟩ rfl rfl rfl
  (fun i b hi ho hbb => by
    rcases hi with rfl | rfl | rfl | rfl
    · rw [s3 i hne2 hne3] at hbb; exact .inr ⟨i, .inl rfl, oid, hbb⟩
    · rw [m1] at ho; cases ho
    · rw [s1] at hbb; obtain ⟨h1, h2⟩ := hvb b hbb; exact .inr ⟨fid, .inr (.inl rfl), ofid, hbf j v b h1 h2⟩
    · rw [s2] at hbb; obtain ⟨i, q, _, h1, h2⟩ := hfb b hbb; exact .inr ⟨fid, .inr (.inl rfl), ofid, hbf i q b h1 h2⟩)
  (fun i i' b hi hi' ho ho' hb1 hb2 => by
    have kfr : ∀ b, hb (σ' fr) b → hb (σ fid) b := fun b hbb => by
     rw [s1] at hbb; obtain ⟨h1, h2⟩ := hvb b hbb; exact hbf j v b h1 h2
    have kf1 : ∀ b, hb (σ' (fr + 1)) b → hb (σ fid) b := fun b hbb => by
     rw [s2] at hbb; obtain ⟨i, q, _, h1, h2⟩ := hfb b hbb; exact hbf i q b h1 h2
    have kid : ∀ b, hb (σ' id) b → hb (σ id) b := fun b hbb => by rw [s3 id hne2 hne3] at hbb; exact hbb
    have kx : ∀ b, hb (σ' fr) b → hb (σ' (fr + 1)) b → False := fun b h1 h2 => by
     rw [s1] at h1; rw [s2] at h2; obtain ⟨g1, g2⟩ := hvb b h1; obtain ⟨i, q, hij, g3, g4⟩ := hfb b h2; exact hij (c2.inj i j q v b g3 g1 g4 g2)
    rcases hi with rfl | rfl | rfl | rfl <;> rcases hi' with rfl | rfl | rfl | rfl
    · rfl
    · rw [m1] at ho'; cases ho'
    · exact absurd (h.inj _ _ b oid ofid (kid b hb1) (kfr b hb2)) hne1
    · exact absurd (h.inj _ _ b oid ofid (kid b hb1) (kf1 b hb2)) hne1
    · rw [m1] at ho; cases ho
    · rfl
    · rw [m1] at ho; cases ho
    · rw [m1] at ho; cases ho
    · exact absurd (h.inj _ _ b oid ofid (kid b hb2) (kfr b hb1)) hne1
    · rw [m1] at ho'; cases ho'
    · rfl
    · exact (kx b hb1 hb2).elim
    · exact absurd (h.inj _ _ b oid ofid (kid b hb2) (kf1 b hb1)) hne1
    · rw [m1] at ho'; cases ho'
    · exact (kx b hb2 hb1).elim
    · rfl)
  (fun i hi => by
    rcases hi with rfl | rfl | rfl | rfl
    · rw [s3 i hne2 hne3]; exact h.hone i
    · rw [s3 i hne4 hne5]; exact h.hone i
    · rw [s1]; exact v1
    · rw [s2]; rfl)
  (fun hk i hi => by
    have hblk : ∀ (i : Nat) q b, vs.toList[i]? = some q → blkOf q = some b → (w.heap.setIfInBounds r (.map es' ks'.length))[b]? = w.heap[b]? := fun i q b hq hbq => by
     refine f2 b fun e => ?_; have h1 := hbf i q b hq hbq; have h2 : hb (σ id) b := by rw [b1, e]; exact .inl rfl
     exact hne1 (h.inj id fid b oid ofid h2 h1)
    rcases hi with rfl | rfl | rfl | rfl
    · rw [m2]; refine ⟨r, es', .func 0, (hset vs.toList j (.slice none 0 0)).toArray, by simp only [rx]; rw [s3 i hne2 hne3]; exact b1, f1, fun k => k.2 ⟨by omega, by omega⟩, s2, ?_⟩; have := hmap _ hk; simpa using this
    · rw [m1]; trivial
    · rw [m4]
      rcases hv with ⟨rfl, h0⟩ | ⟨h1, h2⟩
      · refine ⟨0, [], by rw [h0]; rfl, ?_, by rw [h0]; rfl⟩; simp only [rx]; rw [s1]; exact rowR_none _ _ _ _
      · obtain ⟨_, flat, g1, g2⟩ := c2.row j _ v h2 h1; refine ⟨_, flat, rfl, ?_, roAll_mono (ro_keep hk.k u) _ _ g2⟩; simp only [rx]; rw [s1]; exact rowR_of_block g1 (fun g hg => hblk j v g h1 hg)
    · rw [m3]; refine ⟨.func 0, (hset vs.toList j (.slice none 0 0)).toArray, s2, ?_⟩; simp only [List.toList_toArray]; refine ⟨hset_len hvl, fun i xs q h1 h2 => ?_, fun i i2 q q2 b h1 h2 h3 h4 => ?_⟩
      · rw [hX i] at h1; rw [hG i] at h2; by_cases hij : i = j
        · rw [if_pos hij] at h1 h2; simp only [Option.some.injEq] at h1 h2; subst h1 h2; exact ⟨rfl, [], rowR_none _ _ _ _, rfl⟩
        · rw [if_neg hij] at h1 h2; obtain ⟨g1, flat, g2, g3⟩ := c2.row i xs q h1 h2; exact ⟨g1, flat, rowR_of_block g2 (fun g hg => hblk i q g h2 hg), roAll_mono (ro_keep hk.k u) _ _ g3⟩
      · rw [hG i] at h1; rw [hG i2] at h2; by_cases hij : i = j
        · rw [if_pos hij] at h1; simp only [Option.some.injEq] at h1; rw [← h1] at h3; exact absurd h3 nil_blk
        · by_cases hij2 : i2 = j
          · rw [if_pos hij2] at h2; simp only [Option.some.injEq] at h2; rw [← h2] at h4; exact absurd h4 nil_blk
          · rw [if_neg hij] at h1; rw [if_neg hij2] at h2; exact c2.inj i i2 q q2 b h1 h2 h3 h4)
 exact ⟨σ', k1, k2, s1⟩
theorem mapRep_at {x : Rx} {kt vt : Ty} {ka va : Bool} : ∀ (l : List (kt.den × vt.den)) (es : List MapEntry), mapRep x kt vt ka va l es → es.length = l.length ∧ ∀ (i : Nat) p en, l[i]? = some p → es[i]? = some en → ∃ ks vs, en.key = mkV ka ks ∧ ro x.w x.O kt p.1 ks ∧ en.val = mkV va vs ∧ ro x.w x.O vt p.2 vs
 | [], es, h => by
   rw [show es = [] from h]
   exact ⟨rfl, fun i p en hp _ => by simp at hp⟩
 | p :: l, es, h => by
   obtain ⟨e, r, ks, vs, rfl, e1, h1, e2, h2, h3⟩ := h; obtain ⟨a, b⟩ := mapRep_at l r h3; refine ⟨by rw [List.length_cons, List.length_cons, a], fun i q en hq he => ?_⟩
   cases i with
   | zero =>
     have hq : p = q := by simpa using hq
     have he : e = en := by simpa using he
     subst hq he
     exact ⟨ks, vs, e1, h1, e2, h2⟩
   | succ i => exact b i q en (by simpa using hq) (by simpa using he)
theorem zero_int (ht : TabOK P T) {eT : TypeId} {ik : IntKind} (h1 : (TI.of T eT).ty = some (.int ik)) (h2 : (TI.of T eT).zt = true) (h3 : (TI.of T eT).agg = false) : (zeroValue eT).run P w = .ok (.int ik 0) w := by
 have hte := TI.of_ok ht eT (fun e => by rw [e] at h2; cases h2); obtain ⟨iz, zs, hiz, hz, hzt⟩ := hte.zt _ h2 h1; rw [show zs = [Value.int ik 0] from hzt, h3] at hz; exact run_zeroValue hiz hz
theorem inR_zero (ik : IntKind) : InR ik 0 := by
 unfold InR IntKind.min IntKind.max; cases ik <;> simp [IntKind.signed, IntKind.bits]
theorem modify_eq {es : List MapEntry} {j : Nat} {k : Value} (h : ∀ e, es[j]? = some e → e.key = k) : es.modify j (fun e => { e with key := k }) = es := by
 apply List.ext_getElem?; intro i; rw [List.getElem?_modify]; by_cases hij : j = i
 · subst hij
   cases hh : es[j]? with
   | none => rfl
   | some e =>
     have := h e hh; simp [← this]
 · simp [hij]
theorem s_mapEntry (h : RepM cx σ N m w) (hfr : ∀ id, fr ≤ id → id < fr + 32 → N id) {t : TypeId} {x y : Operand} (ho : o.op = .mapEntry t x y) (ht : TabOK P T) (hx : repA (rx cx σ N m w) (av x) (ρ x)) (hy : repA (rx cx σ N m w) (av y) (ρ y))
 (hp : (opEff T G o [av x, av y] m fr).pre) : Runs P w (Res cx σ N m w fr (opEff T G o [av x, av y] m fr)) ((execOp ρ o).run P w) := by
 simp only [opEff, ho] at hp ⊢; split at hp <;> rename_i heq
 · rename_i kT eT id k hd; simp at heq; rw [heq.1] at hx; rw [heq.2] at hy; have hu := (TI.of_ok ht t (fun e => by rw [e] at hd; cases hd)).map kT eT hd; unfold entryE at hp ⊢; split at hp
   · rename_i kt ik ka l hm; unfold entryB at hp ⊢; split at hp
     · rename_i k' hg; split at hp
       · rename_i hc; rw [if_pos hc]; have hlen : l.length ≤ 1048576 := hp; obtain ⟨kvs, e4, hro, hK, hck, hst⟩ := keyG_sound h ht hg hy; obtain ⟨_, _, c3, _⟩ := keyG_some hg; unfold repA repC at hx; obtain ⟨hn, ex⟩ := hx; simp only [rx] at ex hn; have hb := h.blk id; rw [hm] at hb; obtain ⟨r, es, clock, b1, b2, hmr, hsp⟩ := hb; simp only [rx] at b1 b2; obtain ⟨hcl, hborn⟩ := hsp.2 rfl; obtain ⟨hl1, hat⟩ := mapRep_at _ _ hmr; have b5 : mapgRep (rx cx σ N m w) kt ka none (l.map Prod.fst) es.toList (es.toList.map (·.val)) := by
          refine ⟨by rw [List.length_map, hl1], by rw [List.length_map, List.length_map, hl1], fun i k en v h1 h2 h3 => ?_⟩; rw [List.getElem?_map] at h1 h3; obtain ⟨p, hp1, hp2⟩ := Option.map_eq_some_iff.1 h1; obtain ⟨ks, vs, g1, g2, _, _⟩ := hat i p en hp1 h2; rw [h2] at h3; have h3 : en.val = v := by simpa using h3
          exact ⟨hborn i en h2, fun _ => h3, ks, g1, by rw [← hp2]; exact g2⟩
         have hfk := mapg_find (P := P) (w := w) hK hro b5; have hz := zero_int (w := w) ht hc.1 hc.2.1 hc.2.2; have hjle : kidx k' (l.map Prod.fst) ≤ l.length := by have := kidx_le k' (l.map Prod.fst); rwa [List.length_map] at this
         rw [e4] at hck hst
         have fin : ∀ (v : Value) (es' : Array MapEntry) (cl' : Nat), (execOp ρ o).run P w = .ok (.value (.tuple #[v, .int .i64 (kidx k' (l.map Prod.fst))])) { w with heap := w.heap.setIfInBounds r (.map es' cl') } →
          (∀ y : Rx, (rx cx σ N m w).Keeps y → mapRep y kt (.int ik) ka false (kadd l k' 0) es'.toList ∧ Stp kt (.int ik) es'.toList cl') →
          Runs P w (Res cx σ N m w fr ⟨l.length ≤ 1048576, .tup [.one .undef, .one (.int .i64 (kidx k' (l.map Prod.fst)))], [(id, .mapb kt (.int ik) ka false (kadd l k' 0))], True⟩) ((execOp ρ o).run P w) := by
          intro v es' cl' hrun hrep; obtain ⟨f1, f2⟩ := MapKept.heap_set (o' := .map es' cl') b2
          obtain ⟨g1, g2⟩ := h.write hn (.mapb kt (.int ik) ka false (kadd l k' 0)) (b := r) (by rw [b1]; rfl) (by rw [hm]; rfl) (w' := { w with heap := w.heap.setIfInBounds r (.map es' cl') }) f2 (by simp) rfl rfl rfl (fun hk => by
           obtain ⟨k1, k2⟩ := hrep _ hk; exact ⟨r, es', cl', b1, f1, k1, k2⟩)
          obtain ⟨g3, g4⟩ := g1.weaken (N' := Nx N fr) (fun _ k => k.1); refine runs_value hrun ⟨σ, g3, ⟨g2.k.trans g4.k (by simp [rx]), fun _ _ => rfl, fun _ k => k.1⟩, ?_, trivial⟩; unfold repA; refine ⟨_, rfl, ?_⟩; unfold repAs; refine ⟨_, _, rfl, ?_, ?_⟩
          · unfold repA repC; trivial
          · unfold repAs; refine ⟨_, _, rfl, ?_, by unfold repAs; rfl⟩; unfold repA repC; refine ⟨rfl, ?_⟩; unfold InR IntKind.min IntKind.max; simp [IntKind.signed, IntKind.bits]; omega
         by_cases hlt : kidx k' (l.map Prod.fst) < l.length
         · have hl2 : kidx k' (l.map Prod.fst) < es.toList.length := by rw [hl1]; exact hlt
           have hl4 : kidx k' (l.map Prod.fst) < es.size := by simpa using hl2
           rw [List.getElem?_eq_getElem hl2] at hfk; obtain ⟨a, ha, hq⟩ := kidx_at k' (l.map Prod.fst) (by rw [List.length_map]; exact hlt); have hak : k' = a := keyEq_eq kt _ c3 k' a hq; rw [List.getElem?_map] at ha; obtain ⟨p, hp1, hp2⟩ := Option.map_eq_some_iff.1 ha; obtain ⟨kvs2, vs2, d4, d5, _, _⟩ := hat _ p _ hp1 (List.getElem?_eq_getElem hl2); rw [hp2, ← hak] at d5; have hks2 : kvs2 = kvs := ro_det kt _ c3 k' kvs2 kvs d5 hro; subst hks2; have d1 := hborn _ _ (List.getElem?_eq_getElem hl2); have hget : es[kidx k' (l.map Prod.fst)]? = some es.toList[kidx k' (l.map Prod.fst)] := by simp [hl4]
           have hkp : kadd l k' 0 = l := by unfold kadd; rw [if_pos hlt]
           refine fin (es.toList[kidx k' (l.map Prod.fst)]).val (es.modify (kidx k' (l.map Prod.fst)) fun e => { e with key := mkV ka kvs2 }) clock ?_ (fun y hy => ?_)
           · have e9 : (es[kidx k' (l.map Prod.fst)]).key = mkV ka kvs2 := by simpa using d4
             have d1' : (es[kidx k' (l.map Prod.fst)]).born = kidx k' (l.map Prod.fst) := by simpa using d1
             simp [d1', execOp, ho, Instr.mapEntry, run_underlying hu, ex, b1, b2, e4, hck, hfk, getObj, setObj, Sem.run, hget, e9, hst, d1, goInt]
           · rw [hkp, Array.toList_modify, modify_eq (fun e he => by rw [List.getElem?_eq_getElem hl2] at he; cases he; exact d4)]; exact ⟨mapRep_keep hy _ _ hmr, hsp⟩
         · have hje : kidx k' (l.map Prod.fst) = l.length := by omega
           have hl2 : es.toList[kidx k' (l.map Prod.fst)]? = none := List.getElem?_eq_none (by rw [hl1]; omega); rw [hl2] at hfk; have hkp : kadd l k' 0 = l ++ [(k', 0)] := by unfold kadd; rw [if_neg hlt]
           have hcl2 : clock = l.length := by rw [hcl, hl1]
           refine fin (.int ik 0) (es.push { key := mkV ka kvs, val := .int ik 0, born := clock }) (clock + 1) ?_ (fun y hy => ?_)
           · simp [execOp, ho, Instr.mapEntry, run_underlying hu, ex, b1, b2, e4, hck, hfk, hz, getObj, setObj, Sem.run, goInt, hje, hcl2]
           · rw [hkp, Array.toList_push]; refine ⟨mapRep_append _ _ _ _ (mapRep_keep hy _ _ hmr) ⟨_, [], kvs, [.int ik 0], rfl, rfl, ro_keep hy.k _ _ _ hro, rfl, ⟨rfl, inR_zero ik⟩, rfl⟩, hsp.push rfl (keys_apart hro (x := rx cx σ N m w) (y := rx cx σ N m w) (fun e he => ?_))⟩; obtain ⟨i, hi, rfl⟩ := List.getElem_of_mem he; have hil : i < l.length := by rw [← hl1]; exact hi
             obtain ⟨ks, vs, g1, g2, _, _⟩ := hat i l[i] _ (List.getElem?_eq_getElem hil) (List.getElem?_eq_getElem hi); exact ⟨_, ks, g1, g2, kidx_before k' (l.map Prod.fst) i _ (by omega) (by rw [List.getElem?_map, List.getElem?_eq_getElem hil]; rfl)⟩
       · exact hp.elim
     · exact hp.elim
   · rename_i kt ka fid ks hm; split at hp
     · rename_i e u xss hf; split at hp
       · rename_i k' hg; split at hp
         · rename_i hc; rw [if_pos hc]; have hlen : ks.length ≤ 1048576 := hp; obtain ⟨kvs, e4, hro, hK, hck, hst⟩ := keyG_sound h ht hg hy; obtain ⟨_, _, c3, _⟩ := keyG_some hg; unfold repA repC at hx; obtain ⟨hn, ex⟩ := hx; simp only [rx] at ex hn; have hb := h.blk id; rw [hm] at hb; obtain ⟨r, es, f, vs, b1, b2, b3, b4, b5⟩ := hb; simp only [rx] at b1 b2 b3 b4; have hb2 := h.blk fid; rw [hf] at hb2; obtain ⟨f', vs', c1, c2⟩ := hb2; simp only [rx] at c1; rw [b4] at c1; cases c1; have hfk := mapg_find (P := P) (w := w) hK hro b5; have hz := zero_sl (w := w) ht hc.1 hc.2.1 hc.2.2; have hxl : xss.length = ks.length := by rw [← c2.len, b5.lenv]
           have hjle : kidx k' ks ≤ xss.length := by rw [hxl]; exact kidx_le k' ks
           have hgv := fun i => hset_get (l := vs.toList) (x := Value.slice none 0 0) (by rw [c2.len]; exact hjle) i; rw [e4] at hck hst
           have fin : ∀ (v : Value) (es' : Array MapEntry), (execOp ρ o).run P w = .ok (.value (.tuple #[v, .int .i64 (kidx k' ks)])) { w with heap := w.heap.setIfInBounds r (.map es' (kput k' ks).length) } →
            ((v = .slice none 0 0 ∧ xss.getD (kidx k' ks) [] = []) ∨ (vs.toList[kidx k' ks]? = some v ∧ xss[kidx k' ks]? = some (xss.getD (kidx k' ks) []))) →
            (∀ y : Rx, (rx cx σ N m w).Keeps y → mapgRep y kt ka (some (kidx k' ks)) (kput k' ks) es'.toList (hset vs.toList (kidx k' ks) (.slice none 0 0))) →
            Runs P w (Res cx σ N m w fr ⟨ks.length ≤ 1048576, .tup [.one (.row fr), .one (.int .i64 (kidx k' ks))], [(fid, .dead), (id, .mapg kt ka (fr + 1) (kput k' ks) (some (kidx k' ks))), (fr + 1, .fam e u (hset xss (kidx k' ks) [])), (fr, .row e u (xss.getD (kidx k' ks) []))], True⟩) ((execOp ρ o).run P w) := by
            intro v es' hrun hv hmap; obtain ⟨σ', g1, g2, g3⟩ := lend h hfr hm hf hn b1 b2 b3 b4 c2 hjle hv hmap; refine runs_value hrun ⟨σ', g1, g2, ?_, trivial⟩; unfold repA; refine ⟨_, rfl, ?_⟩; unfold repAs; refine ⟨_, _, rfl, ?_, ?_⟩
            · unfold repA repC; exact ⟨fun k => k.2 ⟨by omega, by omega⟩, g3.symm⟩
            · unfold repAs; refine ⟨_, _, rfl, ?_, by unfold repAs; rfl⟩; unfold repA repC; refine ⟨rfl, ?_⟩; have := kidx_le k' ks; unfold InR IntKind.min IntKind.max; simp [IntKind.signed, IntKind.bits]; omega
           by_cases hlt : kidx k' ks < ks.length
           · have hl2 : kidx k' ks < es.toList.length := by rw [b5.len]; exact hlt
             have hl3 : kidx k' ks < vs.toList.length := by rw [b5.lenv]; exact hlt
             have hl4 : kidx k' ks < es.size := by simpa using hl2
             rw [List.getElem?_eq_getElem hl2] at hfk; obtain ⟨a, ha, hq⟩ := kidx_at k' ks hlt; have hak : k' = a := keyEq_eq kt _ c3 k' a hq; obtain ⟨d1, d2, kvs2, d4, d5⟩ := b5.at_ _ _ _ _ ha (List.getElem?_eq_getElem hl2) (List.getElem?_eq_getElem hl3); have d3 := d2 (by simp); rw [← hak] at d5; have hks2 : kvs2 = kvs := ro_det kt _ c3 k' kvs2 kvs d5 hro; subst hks2; have hget : es[kidx k' ks]? = some es.toList[kidx k' ks] := by simp [hl4]
             have hkp : kput k' ks = ks := by unfold kput; rw [if_pos hlt]
             refine fin vs.toList[kidx k' ks] (es.modify (kidx k' ks) fun e => { e with key := mkV ka kvs2 }) ?_ (.inr ⟨List.getElem?_eq_getElem hl3, by rw [List.getElem?_eq_getElem (by omega)]; simp [show kidx k' ks < xss.length by omega]⟩) (fun y hy => ?_)
             · have e9 : (es[kidx k' ks]).key = mkV ka kvs2 := by simpa using d4
               have d1' : (es[kidx k' ks]).born = kidx k' ks := by simpa using d1
               have d3' : (es[kidx k' ks]).val = vs[kidx k' ks]'(by simpa using hl3) := by simpa using d3
               rw [hkp]; simp [d1', d3', execOp, ho, Instr.mapEntry, run_underlying hu, ex, b1, b2, e4, hck, hfk, getObj, setObj, Sem.run, hget, e9, hst, d1, d3, goInt]
             · rw [hkp, Array.toList_modify]; refine ⟨by rw [List.length_modify]; exact b5.len, by rw [← hset_len (l := xss) (x := ([] : List u.den)) (by rw [c2.len])]; unfold hset; rw [if_pos (by omega), List.length_set]; exact hxl, fun i k en q h1 h2 h3 => ?_⟩; rw [List.getElem?_modify] at h2; rw [hgv i] at h3; obtain ⟨en0, hen0⟩ : ∃ en0, es.toList[i]? = some en0 := by
                cases hh : es.toList[i]? with
                | none => rw [hh] at h2; simp at h2
                | some en0 => exact ⟨en0, rfl⟩
               have hiv : i < vs.toList.length := by rw [b5.lenv]; exact (List.getElem?_eq_some_iff.1 h1).1
               obtain ⟨q1, q2, kvs3, q3, q4⟩ := b5.at_ i k en0 vs.toList[i] h1 hen0 (List.getElem?_eq_getElem hiv); by_cases hij : kidx k' ks = i
               · rw [hen0] at h2; simp [hij] at h2; subst h2; refine ⟨q1, fun hh => absurd rfl (by rw [hij] at hh; exact hh), kvs2, rfl, ?_⟩; subst hij; rw [ha] at h1; cases h1; rw [← hak]; exact ro_keep hy.k _ _ _ hro
               · rw [hen0] at h2; simp [hij] at h2; subst h2; rw [if_neg (fun e => hij e.symm), List.getElem?_eq_getElem hiv] at h3; cases h3; exact ⟨q1, fun _ => q2 (by simp), kvs3, q3, ro_keep hy.k _ _ _ q4⟩
           · have hje : kidx k' ks = ks.length := by have := kidx_le k' ks; omega
             have hl2 : es.toList[kidx k' ks]? = none := List.getElem?_eq_none (by rw [b5.len]; omega); rw [hl2] at hfk; have hl3 : xss.getD (kidx k' ks) [] = [] := by
              simp [List.getD, List.getElem?_eq_none (show xss.length ≤ kidx k' ks by omega)]
             have hkp : kput k' ks = ks ++ [k'] := by unfold kput; rw [if_neg hlt]
             refine fin (.slice none 0 0) (es.push { key := mkV ka kvs, val := .slice none 0 0, born := ks.length }) ?_ (.inl ⟨rfl, hl3⟩) (fun y hy => ?_)
             · rw [hkp, List.length_append, List.length_singleton]; simp [execOp, ho, Instr.mapEntry, run_underlying hu, ex, b1, b2, e4, hck, hfk, hz, getObj, setObj, Sem.run, goInt, hje]
             · have hhs : hset vs.toList (kidx k' ks) (.slice none 0 0) = vs.toList ++ [.slice none 0 0] := by
                unfold hset; rw [if_neg (by rw [b5.lenv]; omega)]
               rw [hkp, Array.toList_push, hhs]; refine ⟨by simp only [List.length_append, List.length_singleton, b5.len], by simp only [List.length_append, List.length_singleton, b5.lenv], fun i k en q h1 h2 h3 => ?_⟩; have l1 := b5.len; have l2 := b5.lenv; rw [List.getElem?_append] at h1 h2 h3; by_cases hi : i < ks.length
               · rw [if_pos hi] at h1; rw [if_pos (by omega)] at h2 h3; obtain ⟨q1, q2, kvs3, q3, q4⟩ := b5.at_ i k en q h1 h2 h3; exact ⟨q1, fun _ => q2 (by simp), kvs3, q3, ro_keep hy.k _ _ _ q4⟩
               · rw [if_neg hi] at h1; rw [if_neg (by omega)] at h2 h3; have hi0 : i - ks.length = 0 := by
                  by_cases hz0 : i - ks.length = 0
                  · exact hz0
                  · rw [List.getElem?_eq_none (by simp; omega)] at h1; cases h1
                 have hik : i = ks.length := by omega
                 rw [hi0] at h1; rw [l1, hi0] at h2; rw [l2, hi0] at h3; simp at h1 h2 h3; subst h1 h2 h3; exact ⟨hik.symm, fun hh => rfl, kvs, rfl, ro_keep hy.k _ _ _ hro⟩
         · exact hp.elim
       · exact hp.elim
     · exact hp.elim
   · exact hp.elim
 · exact hp.elim
theorem s_entryStore (h : RepM cx σ N m w) (hfr : ∀ id, fr ≤ id → id < fr + 32 → N id) {t : TypeId} {x y z : Operand} (ho : o.op = .entryStore t x y z) (hx : repA (rx cx σ N m w) (av x) (ρ x)) (hy : repA (rx cx σ N m w) (av y) (ρ y)) (hz : repA (rx cx σ N m w) (av z) (ρ z))
 (hp : (opEff T G o [av x, av y, av z] m fr).pre) : Runs P w (Res cx σ N m w fr (opEff T G o [av x, av y, av z] m fr)) ((execOp ρ o).run P w) := by
 simp only [opEff, ho] at hp ⊢; split at hp <;> rename_i heq
 · rename_i id b r0; simp at heq; rw [heq.1] at hx; rw [heq.2.1] at hy; rw [heq.2.2] at hz; unfold backE at hp ⊢; split at hp
   · rename_i kt ka fid ks j hm; split at hp
     · rename_i e u xss hf; split at hp
       · rename_i e' u' zs0 hr0; split at hp
         · rename_i zs hzs; split at hp
           · rename_i hee; rw [if_pos hee]; obtain ⟨hbj, hjl⟩ : b = (j : Int) ∧ j < ks.length := hp; have hee' : e' = e := hee; subst hee'; obtain ⟨rfl, hzz⟩ : ∃ h : u' = u, h ▸ zs0 = zs := by
              unfold castTy at hzs; split at hzs
              · rename_i hh; exact ⟨hh, by simpa using hzs⟩
              · cases hzs
             simp only at hzz; subst hzz; unfold repA repC at hx hy hz; obtain ⟨hn, ex⟩ := hx; obtain ⟨hn0, ez⟩ := hz; simp only [rx] at ex hn ez hn0; have hb := h.blk id; rw [hm] at hb; obtain ⟨r, es, f, vs, b1, b2, b3, b4, b5⟩ := hb; simp only [rx] at b1 b2 b3 b4; have hb2 := h.blk fid; rw [hf] at hb2; obtain ⟨f', vs', c1, c2⟩ := hb2; simp only [rx] at c1; rw [b4] at c1; cases c1; have hb3 := h.blk r0; rw [hr0] at hb3; obtain ⟨n0, flat0, rfl, d1, d2⟩ := hb3; simp only [rx] at d1 d2; have hxl : xss.length = ks.length := by rw [← c2.len, b5.lenv]
             have hl2 : j < es.toList.length := by rw [b5.len]; exact hjl
             have hl3 : j < vs.toList.length := by rw [b5.lenv]; exact hjl
             have hl4 : j < es.size := by simpa using hl2
             have k0 : N fr := hfr fr (by omega) (by omega); have ne1 : id ≠ fid := fun k => by rw [k, hf] at hm; cases hm
             have ne2 : id ≠ r0 := fun k => by rw [k, hr0] at hm; cases hm
             have ne3 : fid ≠ r0 := fun k => by rw [k, hr0] at hf; cases hf
             have ne4 : id ≠ fr := fun k => hn (k ▸ k0); have ne5 : fid ≠ fr := fun k => b3 (k ▸ k0); have ne6 : r0 ≠ fr := fun k => hn0 (k ▸ k0); have ofid : own (m fid) = true := by rw [hf]; rfl
             have oid : own (m id) = true := by rw [hm]; rfl
             have or0 : own (m r0) = true := by rw [hr0]; rfl
             have hbf : ∀ (i : Nat) u b, vs.toList[i]? = some u → blkOf u = some b → hb (σ fid) b := fun i u b hu hb => by rw [b4]; exact hb_fam.2 ⟨u, List.mem_of_getElem? hu, hb⟩
             have hborn : ∀ (i : Nat) (hi : i < es.toList.length), (es.toList[i]).born = i := fun i hi => by
              have hi2 : i < ks.length := by rw [← b5.len]; exact hi
              exact (b5.at_ i ks[i] es.toList[i] (vs.toList[i]'(by rw [b5.lenv]; exact hi2)) (List.getElem?_eq_getElem hi2) (List.getElem?_eq_getElem hi) (List.getElem?_eq_getElem _)).1
             have hfind : es.findIdx? (fun e => (e.born : Int) == b) = some j := by
              rw [Array.findIdx?_eq_some_iff_getElem]; refine ⟨hl4, ?_, fun i hi => ?_⟩
              · have := hborn j hl2; simp at this; simp [this, hbj]
              · have := hborn i (by simp; omega); simp at this; simp [this, hbj]; omega
             have hrun : (execOp ρ o).run P w = .ok .skip { w with heap := w.heap.setIfInBounds r (.map (es.modify j fun e => { e with val := σ r0 }) ks.length) } := by
              simp [execOp, ho, Instr.entryStore, ex, b1, b2, hy.1, asInt, asIntOf, hfind, ez, getObj, setObj, Sem.run]
             obtain ⟨f1, f2⟩ := MapKept.heap_set (o' := .map (es.modify j fun e => { e with val := σ r0 }) ks.length) b2
             let m' : Mem := upd (upd (upd (upd m fid .dead) r0 .dead) id (.mapg kt ka fr ks none)) fr (.fam e' u' (xss.set j zs0))
             let vs2 := vs.toList.set j (σ r0)
             let σ' : Nat → Value := upd σ fr (.func (.func 0) #[] vs2.toArray)
             have m1 : m' fid = .dead := by simp only [m']; rw [upd_ne _ _ ne5, upd_ne _ _ (fun k => ne1 k.symm), upd_ne _ _ ne3, upd_same]
             have m2 : m' r0 = .dead := by simp only [m']; rw [upd_ne _ _ ne6, upd_ne _ _ (fun k => ne2 k.symm), upd_same]
             have m3 : m' id = .mapg kt ka fr ks none := by simp only [m']; rw [upd_ne _ _ ne4, upd_same]
             have m4 : m' fr = .fam e' u' (xss.set j zs0) := upd_same _ _ _; have m5 : ∀ i, i ≠ id → i ≠ fid → i ≠ r0 → i ≠ fr → m' i = m i := fun i h1 h2 h3 h4 => by simp only [m']; rw [upd_ne _ _ h4, upd_ne _ _ h1, upd_ne _ _ h3, upd_ne _ _ h2]
             have s1 : σ' fr = .func (.func 0) #[] vs2.toArray := upd_same _ _ _; have s2 : ∀ i, i ≠ fr → σ' i = σ i := fun i h1 => upd_ne _ _ h1; have hr0b : ∀ b, blkOf (σ r0) = some b → hb (σ r0) b := fun b hb => .inl hb; have hvs : ∀ (i : Nat) q, vs2[i]? = some q → (i = j ∧ q = σ r0) ∨ (i ≠ j ∧ vs.toList[i]? = some q) := fun i q hq => by
              simp only [vs2] at hq; rw [List.getElem?_set] at hq; by_cases hij : j = i
              · subst hij; rw [if_pos rfl, if_pos hl3] at hq; exact .inl ⟨rfl, by simpa using hq.symm⟩
              · rw [if_neg hij] at hq; exact .inr ⟨fun e => hij e.symm, hq⟩
             have hfb : ∀ b, hb (σ' fr) b → hb (σ fid) b ∨ hb (σ r0) b := fun b hb => by
              rw [s1, hb_fam] at hb; obtain ⟨q, hq, hqb⟩ := hb; obtain ⟨i, hi, rfl⟩ := List.getElem_of_mem hq; have hi2 := List.getElem?_eq_getElem hi; simp only [List.toList_toArray] at hi2 hi hqb
              rcases hvs i _ hi2 with ⟨_, h2⟩ | ⟨_, h2⟩
              · rw [h2] at hqb; exact .inr (hr0b b hqb)
              · exact .inl (hbf i _ b h2 hqb)
             obtain ⟨k1, k2⟩ := h.step (σ' := σ') (N' := Nx N fr) (m' := m') (w' := { w with heap := w.heap.setIfInBounds r (.map (es.modify j fun e => { e with val := σ r0 }) ks.length) }) (fun i => i = id ∨ i = fid ∨ i = r0 ∨ i = fr) (fun i k => k.1)
              (fun i k => by
                have h1 : i ≠ fr := fun e => k.2 ⟨by omega, by omega⟩; rw [m5 i (fun e => hn (e ▸ k.1)) (fun e => b3 (e ▸ k.1)) (fun e => hn0 (e ▸ k.1)) h1]; exact h.fresh i k.1)
              (fun i k => by simp only [not_or] at k; exact ⟨m5 i k.1 k.2.1 k.2.2.1 k.2.2.2, s2 i k.2.2.2⟩)
              (fun i k => s2 i (fun e => k (e ▸ k0)))
              (fun b _ hx => f2 b (fun e => hx id (.inl rfl) oid (by rw [b1, e]; exact .inl rfl))) ⟨by simp, Nat.le_refl _⟩ rfl rfl rfl
              (fun i b hi ho hbb => by
                rcases hi with rfl | rfl | rfl | rfl
                · rw [s2 _ ne4] at hbb; exact .inr ⟨i, .inl rfl, oid, hbb⟩
                · rw [m1] at ho; cases ho
                · rw [m2] at ho; cases ho
                · rcases hfb b hbb with h1 | h1
                  · exact .inr ⟨fid, .inr (.inl rfl), ofid, h1⟩
                  · exact .inr ⟨r0, .inr (.inr (.inl rfl)), or0, h1⟩)
              (fun i i' b hi hi' ho ho' hb1 hb2 => by
                have kx : hb (σ' id) b → hb (σ' fr) b → False := fun h1 h2 => by
                 rw [s2 _ ne4] at h1
                 rcases hfb b h2 with h3 | h3
                 · exact ne1 (h.inj _ _ b oid ofid h1 h3)
                 · exact ne2 (h.inj _ _ b oid or0 h1 h3)
                rcases hi with rfl | rfl | rfl | rfl <;> rcases hi' with rfl | rfl | rfl | rfl
                · rfl
                · rw [m1] at ho'; cases ho'
                · rw [m2] at ho'; cases ho'
                · exact (kx hb1 hb2).elim
                · rw [m1] at ho; cases ho
                · rfl
                · rw [m1] at ho; cases ho
                · rw [m1] at ho; cases ho
                · rw [m2] at ho; cases ho
                · rw [m2] at ho; cases ho
                · rfl
                · rw [m2] at ho; cases ho
                · exact (kx hb2 hb1).elim
                · rw [m1] at ho'; cases ho'
                · rw [m2] at ho'; cases ho'
                · rfl)
              (fun i hi => by
                rcases hi with rfl | rfl | rfl | rfl
                · rw [s2 _ ne4]; exact h.hone _
                · rw [s2 _ ne5]; exact h.hone _
                · rw [s2 _ ne6]; exact h.hone _
                · rw [s1]; rfl)
              (fun hk i hi => by
                have hblk : ∀ q b, (hb (σ fid) b ∨ hb (σ r0) b) → blkOf q = some b → (w.heap.setIfInBounds r (.map (es.modify j fun e => { e with val := σ r0 }) ks.length))[b]? = w.heap[b]? := fun q b hq _ => by
                 refine f2 b fun e => ?_; have h2 : hb (σ id) b := by rw [b1, e]; exact .inl rfl
                 rcases hq with hq | hq
                 · exact ne1 (h.inj id fid b oid ofid h2 hq)
                 · exact ne2 (h.inj id r0 b oid or0 h2 hq)
                rcases hi with rfl | rfl | rfl | rfl
                · rw [m3]
                  refine ⟨r, es.modify j fun e => { e with val := σ r0 }, .func 0, vs2.toArray, by simp only [rx]; rw [s2 _ ne4]; exact b1, f1, fun k => k.2 ⟨by omega, by omega⟩, s1, ?_⟩; simp only [List.toList_toArray, Array.toList_modify]; refine ⟨by rw [List.length_modify]; exact b5.len, by simp only [vs2]; rw [List.length_set]; exact b5.lenv, fun i k en q h1 h2 h3 => ?_⟩; rw [List.getElem?_modify] at h2; obtain ⟨en0, hen0⟩ : ∃ en0, es.toList[i]? = some en0 := by
                   cases hh : es.toList[i]? with
                   | none => rw [hh] at h2; simp at h2
                   | some en0 => exact ⟨en0, rfl⟩
                  have hiv : i < vs.toList.length := by rw [b5.lenv]; exact (List.getElem?_eq_some_iff.1 h1).1
                  obtain ⟨q1, q2, kvs3, q3, q4⟩ := b5.at_ i k en0 vs.toList[i] h1 hen0 (List.getElem?_eq_getElem hiv); rw [hen0] at h2
                  rcases hvs i q h3 with ⟨hij, hq⟩ | ⟨hij, hq⟩
                  · subst hij; simp at h2; subst h2; exact ⟨q1, fun _ => hq.symm, kvs3, q3, ro_keep hk.k _ _ _ q4⟩
                  · simp [show ¬ j = i from fun e => hij e.symm] at h2; subst h2; rw [List.getElem?_eq_getElem hiv] at hq; cases hq; exact ⟨q1, fun _ => q2 (by simpa using fun e => hij e.symm), kvs3, q3, ro_keep hk.k _ _ _ q4⟩
                · rw [m1]; trivial
                · rw [m2]; trivial
                · rw [m4]; refine ⟨.func 0, vs2.toArray, s1, ?_⟩; simp only [List.toList_toArray]; refine ⟨by simp only [vs2]; rw [List.length_set, List.length_set]; exact c2.len, fun i xs q h1 h2 => ?_, fun i i2 q q2 b h1 h2 h3 h4 => ?_⟩
                  · rcases hvs i q h2 with ⟨hij, hq⟩ | ⟨hij, hq⟩
                    · subst hij hq; rw [List.getElem?_set, if_pos rfl, if_pos (by omega)] at h1; simp only [Option.some.injEq] at h1; subst h1; exact ⟨h.hone r0, flat0, rowR_of_block d1 (fun g hg => hblk _ g (.inr (hr0b g hg)) hg), roAll_mono (ro_keep hk.k u') _ _ d2⟩
                    · rw [List.getElem?_set, if_neg (fun e => hij e.symm)] at h1; obtain ⟨g1, flat, g2, g3⟩ := c2.row i xs q h1 hq; exact ⟨g1, flat, rowR_of_block g2 (fun g hg => hblk q g (.inl (hbf i q g hq hg)) hg), roAll_mono (ro_keep hk.k u') _ _ g3⟩
                  · rcases hvs i q h1 with ⟨hij, hq⟩ | ⟨hij, hq⟩ <;> rcases hvs i2 q2 h2 with ⟨hij2, hq2⟩ | ⟨hij2, hq2⟩
                    · rw [hij, hij2]
                    · rw [hq] at h3; exact absurd (h.inj fid r0 b ofid or0 (hbf i2 q2 b hq2 h4) (hr0b b h3)) ne3
                    · rw [hq2] at h4; exact absurd (h.inj fid r0 b ofid or0 (hbf i q b hq h3) (hr0b b h4)) ne3
                    · exact c2.inj i i2 q q2 b hq hq2 h3 h4)
             refine runs_skip hrun ⟨σ', k1, k2, ?_, trivial⟩; unfold repA repC; trivial
           · exact hp.elim
         · exact hp.elim
       · exact hp.elim
     · exact hp.elim
   · exact hp.elim
 · rename_i id b ik n; simp at heq; rw [heq.1] at hx; rw [heq.2.1] at hy; rw [heq.2.2] at hz; unfold storeB at hp ⊢; split at hp
   · rename_i kt ik' ka l hm; split at hp
     · rename_i hc; subst hc; rw [if_pos rfl]; obtain ⟨h0, h1⟩ : 0 ≤ b ∧ b < l.length := hp; unfold repA repC at hx hy hz; obtain ⟨hn, ex⟩ := hx; obtain ⟨ey, _⟩ := hy; obtain ⟨ez, hin⟩ := hz; simp only [rx] at ex hn; have hb := h.blk id; rw [hm] at hb; obtain ⟨r, es, clock, b1, b2, hmr, hsp⟩ := hb; simp only [rx] at b1 b2; obtain ⟨hcl, hborn⟩ := hsp.2 rfl; obtain ⟨hl1, hat⟩ := mapRep_at _ _ hmr; obtain ⟨j, rfl⟩ : ∃ j : Nat, b = j := ⟨b.toNat, by omega⟩; have hjl : j < l.length := by omega
       have hl2 : j < es.toList.length := by rw [hl1]; exact hjl
       have hl4 : j < es.size := by simpa using hl2
       have hfind : es.findIdx? (fun e => (e.born : Int) == (j : Int)) = some j := by
        rw [Array.findIdx?_eq_some_iff_getElem]; refine ⟨hl4, ?_, fun i hi => ?_⟩
        · have := hborn j _ (List.getElem?_eq_getElem hl2); simp at this; simp [this]
        · have := hborn i _ (List.getElem?_eq_getElem (show i < es.toList.length by omega)); simp at this; simp [this]; omega
       obtain ⟨pre, e, post, hes, hpl⟩ : ∃ pre e post, es.toList = pre ++ e :: post ∧ pre.length = j :=
        ⟨es.toList.take j, es.toList[j], es.toList.drop (j + 1), by rw [← List.drop_eq_getElem_cons hl2, List.take_append_drop], by rw [List.length_take]; omega⟩
       obtain ⟨f1, f2⟩ := MapKept.heap_set (o' := .map (es.modify j fun e => { e with val := .int ik' n }) clock) b2
       obtain ⟨g1, g2⟩ := h.write hn (.mapb kt (.int ik') ka false (l.modify j fun e => (e.1, n))) (b := r) (by rw [b1]; rfl) (by rw [hm]; rfl) (w' := { w with heap := w.heap.setIfInBounds r (.map (es.modify j fun e => { e with val := .int ik' n }) clock) }) f2 (by simp) rfl rfl rfl (fun hk => by
        refine ⟨r, _, clock, b1, f1, mapRep_of _ _ (by rw [Array.toList_modify, List.length_modify, List.length_modify, hl1]) (fun i p en hp he => ?_), ?_⟩
        · rw [Array.toList_modify, List.getElem?_modify] at he; rw [List.getElem?_modify] at hp; by_cases hil : i < l.length
          · rw [List.getElem?_eq_getElem hil] at hp; rw [List.getElem?_eq_getElem (show i < es.toList.length by rw [hl1]; exact hil)] at he; obtain ⟨ks, vs, q1, q2, q3, q4⟩ := hat i _ _ (List.getElem?_eq_getElem hil) (List.getElem?_eq_getElem (show i < es.toList.length by rw [hl1]; exact hil)); by_cases hij : j = i
            · have hp : (l[i].1, n) = p := by simpa [hij] using hp
              have he : ({ es.toList[i]'(by rw [hl1]; exact hil) with val := Value.int ik' n } : MapEntry) = en := by simpa [hij] using he
              rw [← hp, ← he]; exact ⟨ks, [.int ik' n], q1, ro_keep hk.k _ _ _ q2, rfl, ⟨rfl, hin⟩⟩
            · have hp : l[i] = p := by simpa [hij] using hp
              have he : es.toList[i]'(by rw [hl1]; exact hil) = en := by simpa [hij] using he
              rw [← hp, ← he]; exact ⟨ks, vs, q1, ro_keep hk.k _ _ _ q2, q3, ro_keep hk.k _ _ _ q4⟩
          · rw [List.getElem?_eq_none (by omega)] at hp; simp at hp
        · rw [Array.toList_modify, hes, ← hpl, modify_mid]; rw [hes] at hsp; exact hsp.mid rfl rfl)
       obtain ⟨g3, g4⟩ := g1.weaken (N' := Nx N fr) (fun _ k => k.1)
       have hrun : (execOp ρ o).run P w = .ok .skip { w with heap := w.heap.setIfInBounds r (.map (es.modify j fun e => { e with val := .int ik' n }) clock) } := by
        simp [execOp, ho, Instr.entryStore, ex, b1, b2, ey, asInt, asIntOf, hfind, ez, getObj, setObj, Sem.run]
       refine runs_skip hrun ⟨σ, g3, ⟨g2.k.trans g4.k (by simp [rx]), fun _ _ => rfl, fun _ k => k.1⟩, ?_, trivial⟩; unfold repA repC; trivial
     · exact hp.elim
   · exact hp.elim
 · exact hp.elim
end
end Go.Ev
