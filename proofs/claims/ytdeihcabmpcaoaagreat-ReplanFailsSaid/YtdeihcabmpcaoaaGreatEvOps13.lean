/- Soundness of the operations: copy, clear, new slices of zeros. -/
import Derived.Test.YtdeihcabmpcaoaaGreatEvOps10ToOps11
set_option linter.unusedSimpArgs false
set_option linter.unusedVariables false
namespace Go.Ev

section
variable {cx : Cx} {σ : Nat → Value} {N : Nat → Prop} {m : Mem} {w : World} {P : Program} {T : Tab} {G : Env} {o : Oper} {fr : Nat} {ρ : Operand → Value} {av : Operand → AV}

theorem zeros_list (z : Array Value) (k : Nat) (hk : z.size = k) : ∀ n, (List.range (n * k)).map (fun i => z[i % k]!) = (List.replicate n z.toList).flatten
 | 0 => by simp
 | n + 1 => by
   rw [List.replicate_succ', List.flatten_append, ← zeros_list z k hk n, Nat.add_mul, Nat.one_mul, List.range_add, List.map_append]
   congr 1
   rw [List.map_map]
   simp only [List.flatten_cons, List.flatten_nil, List.append_nil]
   apply List.ext_getElem
   · simp [hk]
   · intro j h1 h2
     simp at h1
     simp only [List.getElem_map, Function.comp, List.getElem_range, Array.getElem_toList]
     rw [show (n * k + j) % k = j by rw [Nat.add_comm, Nat.mul_comm, Nat.add_mul_mod_self_left]; exact Nat.mod_eq_of_lt h1]
     exact getElem!_pos z j (by omega)

theorem roAll_zeros {O : Nat → Prop} {t : Ty} {x : t.den} {vs : List Value} (h : ro w O t x vs) : ∀ n, roAll (ro w O t) (List.replicate n x) (List.replicate n vs).flatten
 | 0 => by simp [roAll]
 | n + 1 => by
   simp only [List.replicate_succ, List.flatten_cons]
   exact ⟨_, _, rfl, h, roAll_zeros h n⟩

/-- The cells of a type's zero. -/
theorem zero_cells (ht : TabOK P T) {e : TypeId} {u : Ty} (hty : (TI.of T e).ty = some u) (hzt : (TI.of T e).zt = true) {O : Nat → Prop} :
 ∃ i z, P.info? e = some i ∧ i.zero = some z ∧ i.size = u.n ∧ i.bytes = (TI.of T e).bytes ∧ z.cells.size = u.n ∧ 0 < u.n ∧ 0 < i.bytes ∧ ro w O u u.dflt z.cells.toList := by
 have hte := TI.of_ok ht e (fun k => by rw [k] at hty; cases hty)
 obtain ⟨i, hi, hs, hby, z, hz, hzs, _⟩ := hte.info
 obtain ⟨hun, hpos, hbp⟩ := hte.ty u hty
 obtain ⟨i', vs, hi', hz', hzt'⟩ := hte.zt u hzt hty
 rw [hi] at hi'
 cases hi'
 rw [hz] at hz'
 cases hz'
 have hro := zTy_ro (w := w) (O := O) u vs hzt'
 have hl := ro_len u _ _ hro
 refine ⟨i, _, hi, hz, by omega, hby, by rw [hzs, hun], by omega, by omega, ?_⟩
 have e1 : (mkV (TI.of T e).agg vs).cells.toList = vs := by
  unfold mkV at hzs ⊢
  cases hag : (TI.of T e).agg with
  | true => simp [Value.cells]
  | false =>
    have h1 : vs.length = 1 := by have := hte.one hag; omega
    match vs, h1 with
    | [v], _ =>
      have := ro_one u _ _ hro v (by simp)
      simp only [Bool.false_eq_true, if_false, List.getD_cons_zero]
      cases v <;> first | rfl | (simp [Value.oneCell'] at this)
 rw [e1]
 exact hro

theorem s_makeSlice (h : RepM cx σ N m w) (hfr : ∀ id, fr ≤ id → id < fr + 32 → N id) {t : TypeId} {x y : Operand} (ho : o.op = .makeSlice t x y) (ht : TabOK P T) (hx : repA (rx cx σ N m w) (av x) (ρ x)) (hy : repA (rx cx σ N m w) (av y) (ρ y))
 (hp : (opEff T G o [av x, av y] m fr).pre) : Runs P w (Res cx σ N m w fr (opEff T G o [av x, av y] m fr)) ((execOp ρ o).run P w) := by
 simp only [opEff, ho] at hp ⊢
 split at hp <;> rename_i heq
 · rename_i e n c hd
   simp only [List.cons.injEq, and_true] at heq
   rw [heq.1] at hx
   rw [heq.2] at hy
   split at hp
   · rename_i u hty
     split at hp
     · rename_i hzt
       rw [if_pos hzt]
       obtain ⟨p1, p2, p3⟩ := hp
       have hst := (TI.of_ok ht t (fun k => by rw [k] at hd; cases hd)).slice e hd
       obtain ⟨i, z, hi, hz, hs, hby, hzs, hun, hbp, hro⟩ := zero_cells (w := w) (O := Owned cx σ m) ht hty hzt
       obtain ⟨ex, _⟩ := of_int hx
       obtain ⟨ey, _⟩ := of_int hy
       have hn63 : c.toNat ≤ maxLen := by
        have : c * 1 ≤ c * (TI.of T e).bytes := Int.mul_le_mul_of_nonneg_left (by omega) (by omega)
        simp only [maxLen]; omega
       have hbytes : (i.bytes : Int) * c ≤ 281474976710656 := by rw [hby, Int.mul_comm]; omega
       have hrun := run_make (P := P) w t e i z hst hi hz .i64 .i64 n c p1 p2 hbytes (by simp [maxLen] at hn63; omega)
       have hcells : (madeCells z.cells (c.toNat * i.size)).toList = (List.replicate c.toNat z.cells.toList).flatten := by
        rw [← zeros_list z.cells u.n hzs c.toNat]
        unfold madeCells
        rw [Array.toList_map, Array.toList_range, hs, hzs]
       have hfl := roAll_zeros hro n.toNat
       have hlen := roAll_len (fun x c => ro_len u x c) _ _ hfl
       simp only [List.length_replicate] at hlen
       have hnc : n.toNat ≤ c.toNat := by omega
       have hsplit : (List.replicate c.toNat z.cells.toList).flatten = (List.replicate n.toNat z.cells.toList).flatten ++ (List.replicate (c.toNat - n.toNat) z.cells.toList).flatten := by
        rw [← List.flatten_append, List.replicate_append_replicate]; congr 2; omega
       have := fresh_row (fr := fr) (e := e) (t := u) (xs := List.replicate n.toNat u.dflt) (cap := c.toNat) (p := 0 ≤ n ∧ n ≤ c ∧ c * (TI.of T e).bytes ≤ 140737488355328) (q := True) (u0 := []) ⟨Keep.refl _ _, fun _ _ => rfl, fun _ h => h⟩ h (hfr fr (by omega) (by omega)) (fun id hid _ => hid)
        (alloc_world w _) (heap_alloc_new w (.cells (madeCells z.cells (c.toNat * i.size)) e)) hfl (by simpa using hnc) hn63 (by rw [size_madeCells, hs]) (by rw [hcells, List.length_replicate, ← hlen, hsplit]; exact List.take_left) trivial rfl
       simp only [List.length_replicate] at this
       refine runs_value ?_ this
       simp only [execOp, ho, ex, ey, hrun, Sem.run_bind, Result.andThen_ok, Sem.run_pure]
     · exact hp.elim
   · exact hp.elim
 · exact hp.elim

/-- What 'winOf' finds. -/
theorem winOf_some {e : TypeId} {t : Ty} {d : C1} {id lo len : Nat} {xs : List t.den} (h : RepM cx σ N m w) (hw : winOf m e t d = some (id, lo, len, xs)) {v : Value} (hd : repC (rx cx σ N m w) d v) :
 m id = .row e t xs ∧ lo + len ≤ xs.length ∧ repC (rx cx σ N m w) (.win id t.n lo len) v := by
 unfold winOf at hw
 split at hw
 · rename_i id'
   split at hw
   · rename_i e' u ys hm
     split at hw
     · rename_i he
       subst he
       cases hc : castTy u t ys with
       | none => rw [hc] at hw; cases hw
       | some zs =>
         rw [hc] at hw
         obtain ⟨e1, rfl⟩ := castTy_eq hc
         subst e1
         simp only [Option.map_some, Option.some.injEq, Prod.mk.injEq] at hw
         obtain ⟨rfl, rfl, rfl, rfl⟩ := hw
         refine ⟨hm, by simp, ?_⟩
         have hb := h.blk id'
         rw [hm] at hb
         obtain ⟨a, cap, flat, g1, g2, g3, g4, g5⟩ := row_read hb
         unfold repC at hd ⊢
         obtain ⟨hn, rfl⟩ := hd
         simp only [rx] at hn ⊢
         refine ⟨hn, a, ys.length, cap, a, g1, by omega, g2, by rw [Nat.sub_zero]; exact g1, fun hc => ?_⟩
         rcases g5 with ⟨rfl, _⟩ | ⟨b, rfl, _⟩
         · omega
         · exact ⟨b, rfl, by rw [Nat.zero_mul]⟩
     · cases hw
   · cases hw
 · rename_i id' sz lo' len'
   split at hw
   · rename_i e' u ys hm
     split at hw
     · rename_i he
       obtain ⟨rfl, rfl, hll⟩ := he
       cases hc : castTy u t ys with
       | none => rw [hc] at hw; cases hw
       | some zs =>
         rw [hc] at hw
         obtain ⟨e1, rfl⟩ := castTy_eq hc
         subst e1
         simp only [Option.map_some, Option.some.injEq, Prod.mk.injEq] at hw
         obtain ⟨rfl, rfl, rfl, rfl⟩ := hw
         exact ⟨hm, hll, hd⟩
     · cases hw
   · cases hw
 · cases hw

theorem same_row {id : Nat} {e : TypeId} {u : Ty} {xs : List u.den} (hm : m id = .row e u xs) : upd m id (.row e u xs) = m := by
 funext i
 unfold upd
 split
 · rename_i e; rw [← e]; exact hm.symm
 · rfl

/-- The end of an operation that has written a row. -/
theorem put_res (h : RepM cx σ N m w) {id : Nat} {B : Blk} {w' : World} (hsz : w.heap.size ≤ w'.heap.size) (k4 : RepM cx σ N (upd m id B) w') (k5 : Rx.Keeps (rx cx σ N m w) (rx cx σ N (upd m id B) w')) {r : AV} {v : Value} (hr : ∀ x, repA x r v) (p : Prop) :
 Res cx σ N m w fr ⟨p, r, [(id, B)], True⟩ v w' := by
 obtain ⟨g3, g4⟩ := k4.weaken (N' := Nx N fr) (fun _ k => k.1)
 exact ⟨σ, g3, ⟨k5.k.trans g4.k (by simpa [rx] using hsz), fun _ _ => rfl, fun _ k => k.1⟩, hr _, trivial⟩

theorem s_copy (h : RepM cx σ N m w) {x y : Operand} {ts : Array TypeId} (ho : o.op = .call { callee := .builtin .copy, args := #[x, y], argTypes := ts }) (ht : TabOK P T) (hx : repA (rx cx σ N m w) (av x) (ρ x)) (hy : repA (rx cx σ N m w) (av y) (ρ y))
 (hp : (builtinE T .copy ts [av x, av y] m fr).pre) : Runs P w (Res cx σ N m w fr (builtinE T .copy ts [av x, av y] m fr)) ((execOp ρ o).run P w) := by
 simp only [builtinE] at hp ⊢
 split at hp <;> rename_i heq
 · rename_i d s
   simp only [List.cons.injEq, and_true] at heq
   rw [heq.1] at hx
   rw [heq.2] at hy
   unfold repA at hx hy
   split at hp
   · rename_i t t2 hts
     have hts' : ts = #[t, t2] := by rw [← Array.toArray_toList (xs := ts), hts]
     subst hts'
     split at hp
     · rename_i e hd
       split at hp
       · rename_i u hty
         split at hp
         · rename_i ys hv
           have hu := (TI.of_ok ht t (fun k => by rw [k] at hd; cases hd)).slice e hd
           have hte := TI.of_ok ht e (fun k => by rw [k] at hty; cases hty)
           obtain ⟨i, hi, hs, _⟩ := hte.info
           obtain ⟨hun, hpos, _⟩ := hte.ty u hty
           obtain ⟨a, n, cap, flat, e1, rfl, hlc, hcm, hfl, hax⟩ := view_read h hv hy
           unfold copyE at hp ⊢
           split at hp
           · rename_i id lo len xs hw
             obtain ⟨hm, hll, hwin⟩ := winOf_some h hw hx
             have hb := h.blk id
             rw [hm] at hb
             obtain ⟨a2, cap2, flat2, g1, g2, g3, g4, g5⟩ := row_read hb
             obtain ⟨q1, q2, a', q3, q4⟩ := win_read hwin (by simp only [rx]; exact g1)
             have hkm : Nat.min ys.length len = min len ys.length := Nat.min_comm _ _
             by_cases hk : min len ys.length = 0
             · -- nothing is copied
               have hrun : (execOp ρ o).run P w = .ok (.value (goInt 0)) w := by
                rw [call_builtin ho]
                cases a <;> cases a' <;> simp [builtin, Builtin.copy_, run_underlying hu, e1, q3, Builtin.lenOf, Builtin.firstCells, sizeOf, typeInfo, hi, hkm, hk, storeCells, loadCells, loadCellsFrom]
               have hid : xs.take lo ++ (ys.take 0 ++ xs.drop (lo + 0)) = xs := by simp
               rw [hk, hid]
               refine runs_value hrun (put_res h (Nat.le_refl _) (by rw [same_row hm]; exact h) (by rw [same_row hm]; exact ⟨Keep.refl _ _, fun _ _ => rfl, fun _ h => h⟩) (fun x => repA_int (in_len (Nat.zero_le _))) True)
             · have hfl' : ∃ us, roAll (ro w (Owned cx σ m) u) (ys.take (min len ys.length)) us ∧ ∃ rest, flat = us ++ rest := by
                obtain ⟨us, rest, r1, r2, _⟩ := roAll_split (ys.take (min len ys.length)) (ys.drop (min len ys.length)) flat (by rw [List.take_append_drop]; exact hfl)
                exact ⟨us, r2, rest, r1⟩
               obtain ⟨us, hus, rest, rfl⟩ := hfl'
               have hul := roAll_len (fun x c => ro_len u x c) _ _ hus
               have htl : (ys.take (min len ys.length)).length = min len ys.length := by rw [List.length_take]; omega
               rw [htl] at hul
               obtain ⟨b, cp, w', k1, k2, k3, k4, k4', k5, k6⟩ := win_put (P := P) (off := 0) (ys := ys.take (min len ys.length)) h hm hwin (by omega) (by omega) hus (by omega)
               rw [Nat.zero_mul, Nat.add_zero] at k4
               rw [Nat.add_zero, htl] at k5 k6
               rcases hax with ⟨_, h0⟩ | ⟨bx, qx, rfl, hcx⟩
               · have : us.length = 0 := by simp at h0; simp [h0.1]
                 have : 0 < min len ys.length * u.n := Nat.mul_pos (by omega) (by omega)
                 omega
               · have hfc := run_firstCells_some (P := P) w i.size (min len ys.length) ⟨bx, qx, none⟩ ys.length cap us (by rw [hul, hs, hun]) (fun j v hv => by
                  rw [add_none]
                  exact hcx j v (by rw [List.getElem?_append_left (List.getElem?_eq_some_iff.1 hv).1]; exact hv))
                 have hrun : (execOp ρ o).run P w = .ok (.value (goInt ((min len ys.length : Nat) : Int))) w' := by
                  rw [call_builtin ho]
                  simp [builtin, Builtin.copy_, run_underlying hu, e1, k1, Builtin.lenOf, sizeOf, typeInfo, hi, hkm, hfc, k4]
                  try (congr 1; omega)
                 refine runs_value hrun (put_res h k4' k5 k6 (fun x => repA_int (in_len (n := min len ys.length) (by omega))) True)
           · exact hp.elim
         · exact hp.elim
       · exact hp.elim
     · exact hp.elim
   · exact hp.elim
 · exact hp.elim

theorem s_clear (h : RepM cx σ N m w) {x : Operand} {ts : Array TypeId} (ho : o.op = .call { callee := .builtin .clear, args := #[x], argTypes := ts }) (ht : TabOK P T) (hx : repA (rx cx σ N m w) (av x) (ρ x))
 (hp : (builtinE T .clear ts [av x] m fr).pre) : Runs P w (Res cx σ N m w fr (builtinE T .clear ts [av x] m fr)) ((execOp ρ o).run P w) := by
 simp only [builtinE] at hp ⊢
 split at hp <;> rename_i heq
 · rename_i d
   simp only [List.cons.injEq, and_true] at heq
   rw [heq] at hx
   unfold repA at hx
   split at hp
   · rename_i t hts
     have hts' : ts = #[t] := by rw [← Array.toArray_toList (xs := ts), hts]
     subst hts'
     split at hp
     · rename_i e hd
       split at hp
       · rename_i u hty
         split at hp
         · rename_i hzt
           rw [if_pos hzt]
           have hu := (TI.of_ok ht t (fun k => by rw [k] at hd; cases hd)).slice e hd
           obtain ⟨i, z, hi, hz, hs, hby, hzs, hun, hbp, hro⟩ := zero_cells (w := w) (O := Owned cx σ m) ht hty hzt
           unfold clearE at hp ⊢
           split at hp
           · rename_i id lo len xs hw
             obtain ⟨hm, hll, hwin⟩ := winOf_some h hw hx
             have hb := h.blk id
             rw [hm] at hb
             obtain ⟨a2, cap2, flat2, g1, g2, g3, g4, g5⟩ := row_read hb
             obtain ⟨q1, q2, a', q3, q4⟩ := win_read hwin (by simp only [rx]; exact g1)
             by_cases hk : len = 0
             · subst hk
               have hrun : (execOp ρ o).run P w = .ok (.value (.tuple #[])) w := by
                rw [call_builtin ho]
                cases a' <;> simp [builtin, Builtin.clear_, run_underlying hu, q3]
               have hid : xs.take lo ++ (List.replicate 0 u.dflt ++ xs.drop (lo + 0)) = xs := by simp
               rw [hid]
               refine runs_value hrun (put_res h (Nat.le_refl _) (by rw [same_row hm]; exact h) (by rw [same_row hm]; exact ⟨Keep.refl _ _, fun _ _ => rfl, fun _ h => h⟩) (fun x => by unfold repA repC; trivial) True)
             · have hus := roAll_zeros hro len
               obtain ⟨b, cp, w', k1, k2, k3, k4, k4', k5, k6⟩ := win_put (P := P) (off := 0) (ys := List.replicate len u.dflt) h hm hwin hun (by simp; omega) hus (by simp; omega)
               rw [Nat.zero_mul, Nat.add_zero] at k4
               rw [Nat.add_zero, List.length_replicate] at k5 k6
               have hzc : (Builtin.zeroCells z.cells len).toList = (List.replicate len z.cells.toList).flatten := by
                rw [← zeros_list z.cells u.n hzs len]
                unfold Builtin.zeroCells
                rw [Array.toList_map, Array.toList_range, hzs]
               have hzv : (zeroValue e).run P w = .ok z w := run_zeroValue hi hz
               have hrun : (execOp ρ o).run P w = .ok (.value (.tuple #[])) w' := by
                rw [call_builtin ho]
                obtain ⟨l', rfl⟩ : ∃ l', len = l' + 1 := ⟨len - 1, by omega⟩
                simp [builtin, Builtin.clear_, run_underlying hu, k1, hzv, hzc, k4]
               refine runs_value hrun (put_res h k4' k5 k6 (fun x => by unfold repA repC; trivial) True)
           · exact hp.elim
         · exact hp.elim
       · exact hp.elim
     · exact hp.elim
   · exact hp.elim
 · exact hp.elim

end
end Go.Ev
