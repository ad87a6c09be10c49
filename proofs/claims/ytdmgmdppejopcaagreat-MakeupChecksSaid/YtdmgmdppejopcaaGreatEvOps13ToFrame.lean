/- Soundness of the operations: copy, clear, new slices of zeros. -/
import Derived.Test.YtdmgmdppejopcaaGreatEvOps9ToOps11
set_option linter.unusedSimpArgs false
set_option linter.unusedVariables false
namespace Go.Ev

section
variable {cx : Cx} {σ : Nat → Value} {N : Nat → Prop} {m : Mem} {w : World} {P : Program} {T : Tab} {G : Env} {o : Oper} {fr : Nat} {ρ : Operand → Value} {av : Operand → AV}

theorem zeros_list (z : Array Value) (k : Nat) (hk : z.size = k) : ∀ n, (List.range (n * k)).map (fun i => z[i % k]!) = (List.replicate n z.toList).flatten
  | 0 => by simp
  | n + 1 => by
    rw [List.replicate_succ', List.flatten_append, ← zeros_list z k hk n, Nat.add_mul, Nat.one_mul, List.range_add, List.map_append]
    congr 1
    rw [List.map_map]
    simp only [List.flatten_cons, List.flatten_nil, List.append_nil]
    apply List.ext_getElem
    · simp [hk]
    · intro j h1 h2
      simp at h1
      simp only [List.getElem_map, Function.comp, List.getElem_range, Array.getElem_toList]
      rw [show (n * k + j) % k = j by rw [Nat.add_comm, Nat.mul_comm, Nat.add_mul_mod_self_left]; exact Nat.mod_eq_of_lt h1]
      exact getElem!_pos z j (by omega)

theorem roAll_zeros {O : Nat → Prop} {t : Ty} {x : t.den} {vs : List Value} (h : ro w O t x vs) : ∀ n, roAll (ro w O t) (List.replicate n x) (List.replicate n vs).flatten
  | 0 => by simp [roAll]
  | n + 1 => by
    simp only [List.replicate_succ, List.flatten_cons]
    exact ⟨_, _, rfl, h, roAll_zeros h n⟩

/-- The cells of a type's zero. -/
theorem zero_cells (ht : TabOK P T) {e : TypeId} {u : Ty} (hty : (TI.of T e).ty = some u) (hzt : (TI.of T e).zt = true) {O : Nat → Prop} :
    ∃ i z, P.info? e = some i ∧ i.zero = some z ∧ i.size = u.n ∧ i.bytes = (TI.of T e).bytes ∧ z.cells.size = u.n ∧ 0 < u.n ∧ 0 < i.bytes ∧ ro w O u u.dflt z.cells.toList := by
  have hte := TI.of_ok ht e (fun k => by rw [k] at hty; cases hty)
  obtain ⟨i, hi, hs, hby, z, hz, hzs, _⟩ := hte.info
  obtain ⟨hun, hpos, hbp⟩ := hte.ty u hty
  obtain ⟨i', vs, hi', hz', hzt'⟩ := hte.zt u hzt hty
  rw [hi] at hi'
  cases hi'
  rw [hz] at hz'
  cases hz'
  have hro := zTy_ro (w := w) (O := O) u vs hzt'
  have hl := ro_len u _ _ hro
  refine ⟨i, _, hi, hz, by omega, hby, by rw [hzs, hun], by omega, by omega, ?_⟩
  have e1 : (mkV (TI.of T e).agg vs).cells.toList = vs := by
    unfold mkV at hzs ⊢
    cases hag : (TI.of T e).agg with
    | true => simp [Value.cells]
    | false =>
      have h1 : vs.length = 1 := by have := hte.one hag; omega
      match vs, h1 with
      | [v], _ =>
        have := ro_one u _ _ hro v (by simp)
        simp only [Bool.false_eq_true, if_false, List.getD_cons_zero]
        cases v <;> first | rfl | (simp [Value.oneCell'] at this)
  rw [e1]
  exact hro

theorem s_makeSlice (h : RepM cx σ N m w) (hfr : ∀ id, fr ≤ id → id < fr + 32 → N id) {t : TypeId} {x y : Operand} (ho : o.op = .makeSlice t x y) (ht : TabOK P T) (hx : repA (rx cx σ N m w) (av x) (ρ x)) (hy : repA (rx cx σ N m w) (av y) (ρ y))
    (hp : (opEff T G o [av x, av y] m fr).pre) : Runs P w (Res cx σ N m w fr (opEff T G o [av x, av y] m fr)) ((execOp ρ o).run P w) := by
  simp only [opEff, ho] at hp ⊢
  split at hp <;> rename_i heq
  · rename_i e n c hd
    simp only [List.cons.injEq, and_true] at heq
    rw [heq.1] at hx
    rw [heq.2] at hy
    split at hp
    · rename_i u hty
      split at hp
      · rename_i hzt
        rw [if_pos hzt]
        obtain ⟨p1, rfl, p3⟩ := hp
        have hst := (TI.of_ok ht t (fun k => by rw [k] at hd; cases hd)).slice e hd
        obtain ⟨i, z, hi, hz, hs, hby, hzs, hun, hbp, hro⟩ := zero_cells (w := w) (O := Owned cx σ m) ht hty hzt
        obtain ⟨ex, _⟩ := of_int hx
        obtain ⟨ey, _⟩ := of_int hy
        have hn63 : c.toNat ≤ maxLen := by
          have : c * 1 ≤ c * (TI.of T e).bytes := Int.mul_le_mul_of_nonneg_left (by omega) p1
          simp only [maxLen]; omega
        have hbytes : (i.bytes : Int) * c ≤ 281474976710656 := by rw [hby, Int.mul_comm]; omega
        have hrun := run_make (P := P) w t e i z hst hi hz .i64 .i64 c c p1 (Int.le_refl _) hbytes (by simp [maxLen] at hn63; omega)
        have hcells : (madeCells z.cells (c.toNat * i.size)).toList = (List.replicate c.toNat z.cells.toList).flatten := by
          rw [← zeros_list z.cells u.n hzs c.toNat]
          unfold madeCells
          rw [Array.toList_map, Array.toList_range, hs, hzs]
        have hfl := roAll_zeros hro c.toNat
        have hlen := roAll_len (fun x c => ro_len u x c) _ _ hfl
        simp only [List.length_replicate] at hlen
        have := fresh_row (fr := fr) (e := e) (t := u) (xs := List.replicate c.toNat u.dflt) (cap := c.toNat) (p := 0 ≤ c ∧ c = c ∧ c * (TI.of T e).bytes ≤ 140737488355328) (q := True) (u0 := []) ⟨Keep.refl _ _, fun _ _ => rfl, fun _ h => h⟩ h (hfr fr (by omega) (by omega)) (fun id hid _ => hid)
          (alloc_world w _) (heap_alloc_new w (.cells (madeCells z.cells (c.toNat * i.size)) e)) hfl (by simp) hn63 (by rw [size_madeCells, hs]) (by rw [hcells, List.length_replicate, ← hlen, List.take_length]) trivial rfl
        simp only [List.length_replicate] at this
        refine runs_value ?_ this
        simp only [execOp, ho, ex, ey, hrun, Sem.run_bind, Result.andThen_ok, Sem.run_pure]
      · exact hp.elim
    · exact hp.elim
  · exact hp.elim

/-- What 'winOf' finds. -/
theorem winOf_some {e : TypeId} {t : Ty} {d : C1} {id lo len : Nat} {xs : List t.den} (h : RepM cx σ N m w) (hw : winOf m e t d = some (id, lo, len, xs)) {v : Value} (hd : repC (rx cx σ N m w) d v) :
    m id = .row e t xs ∧ lo + len ≤ xs.length ∧ repC (rx cx σ N m w) (.win id t.n lo len) v := by
  unfold winOf at hw
  split at hw
  · rename_i id'
    split at hw
    · rename_i e' u ys hm
      split at hw
      · rename_i he
        subst he
        cases hc : castTy u t ys with
        | none => rw [hc] at hw; cases hw
        | some zs =>
          rw [hc] at hw
          obtain ⟨e1, rfl⟩ := castTy_eq hc
          subst e1
          simp only [Option.map_some, Option.some.injEq, Prod.mk.injEq] at hw
          obtain ⟨rfl, rfl, rfl, rfl⟩ := hw
          refine ⟨hm, by simp, ?_⟩
          have hb := h.blk id'
          rw [hm] at hb
          obtain ⟨a, cap, flat, g1, g2, g3, g4, g5⟩ := row_read hb
          unfold repC at hd ⊢
          obtain ⟨hn, rfl⟩ := hd
          simp only [rx] at hn ⊢
          refine ⟨hn, a, ys.length, cap, a, g1, by omega, g2, by rw [Nat.sub_zero]; exact g1, fun hc => ?_⟩
          rcases g5 with ⟨rfl, _⟩ | ⟨b, rfl, _⟩
          · omega
          · exact ⟨b, rfl, by rw [Nat.zero_mul]⟩
      · cases hw
    · cases hw
  · rename_i id' sz lo' len'
    split at hw
    · rename_i e' u ys hm
      split at hw
      · rename_i he
        obtain ⟨rfl, rfl, hll⟩ := he
        cases hc : castTy u t ys with
        | none => rw [hc] at hw; cases hw
        | some zs =>
          rw [hc] at hw
          obtain ⟨e1, rfl⟩ := castTy_eq hc
          subst e1
          simp only [Option.map_some, Option.some.injEq, Prod.mk.injEq] at hw
          obtain ⟨rfl, rfl, rfl, rfl⟩ := hw
          exact ⟨hm, hll, hd⟩
      · cases hw
    · cases hw
  · cases hw

theorem same_row {id : Nat} {e : TypeId} {u : Ty} {xs : List u.den} (hm : m id = .row e u xs) : upd m id (.row e u xs) = m := by
  funext i
  unfold upd
  split
  · rename_i e; rw [← e]; exact hm.symm
  · rfl

/-- The end of an operation that has written a row. -/
theorem put_res (h : RepM cx σ N m w) {id : Nat} {B : Blk} {w' : World} (hsz : w.heap.size ≤ w'.heap.size) (k4 : RepM cx σ N (upd m id B) w') (k5 : Rx.Keeps (rx cx σ N m w) (rx cx σ N (upd m id B) w')) {r : AV} {v : Value} (hr : ∀ x, repA x r v) (p : Prop) :
    Res cx σ N m w fr ⟨p, r, [(id, B)], True⟩ v w' := by
  obtain ⟨g3, g4⟩ := k4.weaken (N' := Nx N fr) (fun _ k => k.1)
  exact ⟨σ, g3, ⟨k5.k.trans g4.k (by simpa [rx] using hsz), fun _ _ => rfl, fun _ k => k.1⟩, hr _, trivial⟩

theorem s_copy (h : RepM cx σ N m w) {x y : Operand} {ts : Array TypeId} (ho : o.op = .call { callee := .builtin .copy, args := #[x, y], argTypes := ts }) (ht : TabOK P T) (hx : repA (rx cx σ N m w) (av x) (ρ x)) (hy : repA (rx cx σ N m w) (av y) (ρ y))
    (hp : (builtinE T .copy ts [av x, av y] m fr).pre) : Runs P w (Res cx σ N m w fr (builtinE T .copy ts [av x, av y] m fr)) ((execOp ρ o).run P w) := by
  simp only [builtinE] at hp ⊢
  split at hp <;> rename_i heq
  · rename_i d s
    simp only [List.cons.injEq, and_true] at heq
    rw [heq.1] at hx
    rw [heq.2] at hy
    unfold repA at hx hy
    split at hp
    · rename_i t t2 hts
      have hts' : ts = #[t, t2] := by rw [← Array.toArray_toList (xs := ts), hts]
      subst hts'
      split at hp
      · rename_i e hd
        split at hp
        · rename_i u hty
          split at hp
          · rename_i ys hv
            have hu := (TI.of_ok ht t (fun k => by rw [k] at hd; cases hd)).slice e hd
            have hte := TI.of_ok ht e (fun k => by rw [k] at hty; cases hty)
            obtain ⟨i, hi, hs, _⟩ := hte.info
            obtain ⟨hun, hpos, _⟩ := hte.ty u hty
            obtain ⟨a, n, cap, flat, e1, rfl, hlc, hcm, hfl, hax⟩ := view_read h hv hy
            unfold copyE at hp ⊢
            split at hp
            · rename_i id lo len xs hw
              obtain ⟨hm, hll, hwin⟩ := winOf_some h hw hx
              have hb := h.blk id
              rw [hm] at hb
              obtain ⟨a2, cap2, flat2, g1, g2, g3, g4, g5⟩ := row_read hb
              obtain ⟨q1, q2, a', q3, q4⟩ := win_read hwin (by simp only [rx]; exact g1)
              have hkm : Nat.min ys.length len = min len ys.length := Nat.min_comm _ _
              by_cases hk : min len ys.length = 0
              · -- nothing is copied
                have hrun : (execOp ρ o).run P w = .ok (.value (goInt 0)) w := by
                  rw [call_builtin ho]
                  cases a <;> cases a' <;> simp [builtin, Builtin.copy_, run_underlying hu, e1, q3, Builtin.lenOf, Builtin.firstCells, sizeOf, typeInfo, hi, hkm, hk, storeCells, loadCells, loadCellsFrom]
                have hid : xs.take lo ++ (ys.take 0 ++ xs.drop (lo + 0)) = xs := by simp
                rw [hk, hid]
                refine runs_value hrun (put_res h (Nat.le_refl _) (by rw [same_row hm]; exact h) (by rw [same_row hm]; exact ⟨Keep.refl _ _, fun _ _ => rfl, fun _ h => h⟩) (fun x => repA_int (in_len (Nat.zero_le _))) True)
              · have hfl' : ∃ us, roAll (ro w (Owned cx σ m) u) (ys.take (min len ys.length)) us ∧ ∃ rest, flat = us ++ rest := by
                  obtain ⟨us, rest, r1, r2, _⟩ := roAll_split (ys.take (min len ys.length)) (ys.drop (min len ys.length)) flat (by rw [List.take_append_drop]; exact hfl)
                  exact ⟨us, r2, rest, r1⟩
                obtain ⟨us, hus, rest, rfl⟩ := hfl'
                have hul := roAll_len (fun x c => ro_len u x c) _ _ hus
                have htl : (ys.take (min len ys.length)).length = min len ys.length := by rw [List.length_take]; omega
                rw [htl] at hul
                obtain ⟨b, cp, w', k1, k2, k3, k4, k4', k5, k6⟩ := win_put (P := P) (off := 0) (ys := ys.take (min len ys.length)) h hm hwin (by omega) (by omega) hus (by omega)
                rw [Nat.zero_mul, Nat.add_zero] at k4
                rw [Nat.add_zero, htl] at k5 k6
                rcases hax with ⟨_, h0⟩ | ⟨bx, qx, rfl, hcx⟩
                · have : us.length = 0 := by simp at h0; simp [h0.1]
                  have : 0 < min len ys.length * u.n := Nat.mul_pos (by omega) (by omega)
                  omega
                · have hfc := run_firstCells_some (P := P) w i.size (min len ys.length) ⟨bx, qx, none⟩ ys.length cap us (by rw [hul, hs, hun]) (fun j v hv => by
                    rw [add_none]
                    exact hcx j v (by rw [List.getElem?_append_left (List.getElem?_eq_some_iff.1 hv).1]; exact hv))
                  have hrun : (execOp ρ o).run P w = .ok (.value (goInt ((min len ys.length : Nat) : Int))) w' := by
                    rw [call_builtin ho]
                    simp [builtin, Builtin.copy_, run_underlying hu, e1, k1, Builtin.lenOf, sizeOf, typeInfo, hi, hkm, hfc, k4]
                    try (congr 1; omega)
                  refine runs_value hrun (put_res h k4' k5 k6 (fun x => repA_int (in_len (n := min len ys.length) (by omega))) True)
            · exact hp.elim
          · exact hp.elim
        · exact hp.elim
      · exact hp.elim
    · exact hp.elim
  · exact hp.elim

theorem s_clear (h : RepM cx σ N m w) {x : Operand} {ts : Array TypeId} (ho : o.op = .call { callee := .builtin .clear, args := #[x], argTypes := ts }) (ht : TabOK P T) (hx : repA (rx cx σ N m w) (av x) (ρ x))
    (hp : (builtinE T .clear ts [av x] m fr).pre) : Runs P w (Res cx σ N m w fr (builtinE T .clear ts [av x] m fr)) ((execOp ρ o).run P w) := by
  simp only [builtinE] at hp ⊢
  split at hp <;> rename_i heq
  · rename_i d
    simp only [List.cons.injEq, and_true] at heq
    rw [heq] at hx
    unfold repA at hx
    split at hp
    · rename_i t hts
      have hts' : ts = #[t] := by rw [← Array.toArray_toList (xs := ts), hts]
      subst hts'
      split at hp
      · rename_i e hd
        split at hp
        · rename_i u hty
          split at hp
          · rename_i hzt
            rw [if_pos hzt]
            have hu := (TI.of_ok ht t (fun k => by rw [k] at hd; cases hd)).slice e hd
            obtain ⟨i, z, hi, hz, hs, hby, hzs, hun, hbp, hro⟩ := zero_cells (w := w) (O := Owned cx σ m) ht hty hzt
            unfold clearE at hp ⊢
            split at hp
            · rename_i id lo len xs hw
              obtain ⟨hm, hll, hwin⟩ := winOf_some h hw hx
              have hb := h.blk id
              rw [hm] at hb
              obtain ⟨a2, cap2, flat2, g1, g2, g3, g4, g5⟩ := row_read hb
              obtain ⟨q1, q2, a', q3, q4⟩ := win_read hwin (by simp only [rx]; exact g1)
              by_cases hk : len = 0
              · subst hk
                have hrun : (execOp ρ o).run P w = .ok (.value (.tuple #[])) w := by
                  rw [call_builtin ho]
                  cases a' <;> simp [builtin, Builtin.clear_, run_underlying hu, q3]
                have hid : xs.take lo ++ (List.replicate 0 u.dflt ++ xs.drop (lo + 0)) = xs := by simp
                rw [hid]
                refine runs_value hrun (put_res h (Nat.le_refl _) (by rw [same_row hm]; exact h) (by rw [same_row hm]; exact ⟨Keep.refl _ _, fun _ _ => rfl, fun _ h => h⟩) (fun x => by unfold repA repC; trivial) True)
              · have hus := roAll_zeros hro len
                obtain ⟨b, cp, w', k1, k2, k3, k4, k4', k5, k6⟩ := win_put (P := P) (off := 0) (ys := List.replicate len u.dflt) h hm hwin hun (by simp; omega) hus (by simp; omega)
                rw [Nat.zero_mul, Nat.add_zero] at k4
                rw [Nat.add_zero, List.length_replicate] at k5 k6
                have hzc : (Builtin.zeroCells z.cells len).toList = (List.replicate len z.cells.toList).flatten := by
                  rw [← zeros_list z.cells u.n hzs len]
                  unfold Builtin.zeroCells
                  rw [Array.toList_map, Array.toList_range, hzs]
                have hzv : (zeroValue e).run P w = .ok z w := run_zeroValue hi hz
                have hrun : (execOp ρ o).run P w = .ok (.value (.tuple #[])) w' := by
                  rw [call_builtin ho]
                  obtain ⟨l', rfl⟩ : ∃ l', len = l' + 1 := ⟨len - 1, by omega⟩
                  simp [builtin, Builtin.clear_, run_underlying hu, k1, hzv, hzc, k4]
                refine runs_value hrun (put_res h k4' k5 k6 (fun x => by unfold repA repC; trivial) True)
            · exact hp.elim
          · exact hp.elim
        · exact hp.elim
      · exact hp.elim
    · exact hp.elim
  · exact hp.elim

end
end Go.Ev

/- Soundness of the operations: assignments, function values, calls; all operations together. -/
set_option linter.unusedSimpArgs false
set_option linter.unusedVariables false
namespace Go.Ev

/-- A contract that holds. -/
def CtrOk (P : Program) (f : FuncId) (C : Ctr) : Prop :=
  ∀ (cx : Cx) (σ : Nat → Value) (N : Nat → Prop) (m : Mem) (w : World) (fr : Nat) (avs : List AV) (vs : List Value), RepM cx σ N m w → (∀ id, fr ≤ id → id < fr + 32 → N id) →
    repAs (rx cx σ N m w) avs vs → (C avs m fr).pre → Calls P f vs.toArray w fun e w' => ∃ v, e = .returned v ∧ Res cx σ N m w fr (C avs m fr) v w'

structure FnHas (P : Program) (f : FuncId) : Prop where
  ex : ∃ fn, P.funcs[f]? = some fn ∧ (fn.name == "runtime.NumGoroutine") = false ∧ fn.body.isNone = false

/-- A contract of several effects that holds. -/
def RCtrOk (P : Program) (f : FuncId) (C : RCtr) : Prop :=
  ∀ (cx : Cx) (σ : Nat → Value) (N : Nat → Prop) (m : Mem) (w : World) (fr : Nat) (avs : List AV) (vs : List Value), RepM cx σ N m w → (∀ id, fr ≤ id → id < fr + 32 → N id) →
    repAs (rx cx σ N m w) avs vs → (C avs m fr).pre → Calls P f vs.toArray w fun e w' => ∃ v, e = .returned v ∧ ∃ a, Res cx σ N m w fr ⟨(C avs m fr).pre, (C avs m fr).r a, (C avs m fr).u a, (C avs m fr).asm a⟩ v w'

structure EnvOk (P : Program) (G : Env) : Prop where
  d : ∀ f C, findL G.d f = some C → CtrOk P f C ∧ FnHas P f
  r : ∀ f C, findL G.r f = some C → RCtrOk P f C ∧ FnHas P f

section
variable {cx : Cx} {σ : Nat → Value} {N : Nat → Prop} {m : Mem} {w : World} {P : Program} {T : Tab} {G : Env} {o : Oper} {fr : Nat} {ρ : Operand → Value} {av : Operand → AV}

theorem s_assign (h : RepM cx σ N m w) (hfr : ∀ id, fr ≤ id → id < fr + 32 → N id) {x : Operand} (ho : o.op = .assign x) (ht : TabOK P T) (hx : repA (rx cx σ N m w) (av x) (ρ x)) (hc : ∀ v, x = .const v → ρ x = v)
    (hp : (opEff T G o [av x] m fr).pre) : Runs P w (Res cx σ N m w fr (opEff T G o [av x] m fr)) ((execOp ρ o).run P w) := by
  have hrun : (execOp ρ o).run P w = .ok (.value (ρ x)) w := by simp [execOp, ho]
  have k0 : Rx.Keeps (rx cx σ N m w) (rx cx σ N m w) := ⟨Keep.refl _ _, fun _ _ => rfl, fun _ h => h⟩
  simp only [opEff, ho] at hp ⊢
  split at hp
  · rename_i hnil
    rw [if_pos hnil]
    split at hp
    · rename_i e hd
      split at hp
      · rename_i t hty
        have e1 : ρ x = .slice none 0 0 := by
          unfold nilC at hnil
          split at hnil
          · exact hc _ rfl
          · cases hnil
        rw [e1] at hrun
        have := nil_row (e := e) (t := t) (p := True) (q := True) (u0 := []) (a0 := none) k0 h (hfr fr (by omega) (by omega)) (fun id hid _ => hid) trivial rfl
        exact runs_value hrun this
      · exact hp.elim
    · exact hp.elim
  · rename_i hnil
    rw [if_neg hnil]
    exact runs_value hrun (okr_res h hx)

theorem onesOf_rep {x : Rx} : ∀ (avs : List AV) (vs : List Value) (cs : List C1), onesOf avs = some cs → repAs x avs vs → repCs x cs vs
  | [], vs, cs, h, hr => by
    simp [onesOf] at h; subst h
    unfold repAs at hr
    rw [hr]; exact repCs_nil.2 rfl
  | .one c :: r, vs, cs, h, hr => by
    simp only [onesOf] at h
    split at h
    · rename_i cs' hcs
      simp at h; subst h
      unfold repAs at hr
      obtain ⟨v, r', rfl, h1, h2⟩ := hr
      unfold repA at h1
      exact repCs_cons.2 ⟨v, r', rfl, h1, onesOf_rep r r' cs' hcs h2⟩
    · cases h
  | .agg _ :: r, vs, cs, h, hr => by simp [onesOf] at h
  | .tup _ :: r, vs, cs, h, hr => by simp [onesOf] at h
  | .ifd _ _ :: r, vs, cs, h, hr => by simp [onesOf] at h

theorem s_makeFunc (h : RepM cx σ N m w) {fn : Fn} {first captured : Array Operand} (ho : o.op = .makeFunc fn first captured) (hx : ∀ x ∈ opsOf o.op, repA (rx cx σ N m w) (av x) (ρ x))
    (hp : (opEff T G o ((opsOf o.op).map av) m fr).pre) : Runs P w (Res cx σ N m w fr (opEff T G o ((opsOf o.op).map av) m fr)) ((execOp ρ o).run P w) := by
  have hreps := repAs_map (x := rx cx σ N m w) _ hx
  rw [ho] at hp hreps ⊢
  cases fn <;> simp only [opEff, ho] at hp ⊢ <;> try exact hp.elim
  rename_i f
  split at hp
  · rename_i cs hfi hcs
    have hf0 : first = #[] := by rw [← Array.toArray_toList (xs := first), hfi]
    subst hf0
    simp only [opsOf, List.nil_append] at hcs hreps ⊢
    refine runs_value (v := .func (.func f) #[] (captured.map ρ)) (w' := w) ?_ (okr_res h ?_)
    · simp [execOp, ho, Instr.makeFunc]
    · unfold repA repC
      refine ⟨captured.toList.map ρ, ?_, onesOf_rep _ _ _ hcs hreps⟩
      rw [← Array.toList_map, Array.toArray_toList]
  · exact hp.elim

theorem repAs_append {x : Rx} : ∀ (as bs : List AV) (vs us : List Value), repAs x as vs → repAs x bs us → repAs x (as ++ bs) (vs ++ us)
  | [], bs, vs, us, h, k => by unfold repAs at h; rw [h]; exact k
  | a :: as, bs, vs, us, h, k => by
    unfold repAs at h
    obtain ⟨v, r, rfl, h1, h2⟩ := h
    rw [List.cons_append, List.cons_append]
    unfold repAs
    exact ⟨v, r ++ us, rfl, h1, repAs_append as bs r us h2 k⟩

theorem repAs_ones {x : Rx} : ∀ (cs : List C1) (vs : List Value), repCs x cs vs → repAs x (cs.map .one) vs
  | [], vs, h => by rw [repCs_nil.1 h]; unfold repAs; rfl
  | c :: cs, vs, h => by
    obtain ⟨v, r, rfl, h1, h2⟩ := repCs_cons.1 h
    simp only [List.map_cons]
    unfold repAs
    exact ⟨v, r, rfl, by unfold repA; exact h1, repAs_ones cs r h2⟩

theorem s_callV (h : RepM cx σ N m w) (hfr : ∀ id, fr ≤ id → id < fr + 32 → N id) {f : Operand} {args : Array Operand} {ts : Array TypeId} (ho : o.op = .call { callee := .value f, args := args, argTypes := ts }) (hG : EnvOk P G)
    (hx : ∀ x ∈ opsOf o.op, repA (rx cx σ N m w) (av x) (ρ x)) (hp : (opEff T G o ((opsOf o.op).map av) m fr).pre) : Runs P w (Res cx σ N m w fr (opEff T G o ((opsOf o.op).map av) m fr)) ((execOp ρ o).run P w) := by
  have hreps := repAs_map (x := rx cx σ N m w) _ hx
  rw [ho] at hp hreps ⊢
  simp only [opEff, ho, opsOf, callOps] at hp hreps ⊢
  simp only [List.cons_append, List.nil_append, List.map_cons] at hp hreps ⊢
  unfold repAs at hreps
  obtain ⟨v, r, e, h1, h2⟩ := hreps
  simp only [List.cons.injEq] at e
  obtain ⟨e1, e2⟩ := e
  split at hp <;> rename_i heq
  · rename_i g caps as
    simp only [List.cons.injEq] at heq
    rw [heq.1] at h1
    unfold repA repC at h1
    obtain ⟨vs, e3, h3⟩ := h1
    rw [getL_findL] at hp ⊢
    cases hf : findL G.d g with
    | none => rw [hf] at hp; exact hp.elim
    | some C =>
      rw [hf] at hp
      simp only [Option.getD_some] at hp ⊢
      obtain ⟨hc, ⟨fn, hfn, hname, hbody⟩⟩ := hG.d g C hf
      have hargs := repAs_append (as := as) (bs := caps.map .one) _ _ (heq.2 ▸ h2) (repAs_ones _ _ h3)
      have hcall := hc cx σ N m w fr (as ++ caps.map .one) (r ++ vs) h hfr hargs hp
      have hrun : (execOp ρ o).run P w = .ok (.enter g (r ++ vs).toArray) w := by
        rw [← e1] at e3
        have er : args.map ρ = r.toArray := by rw [← e2, ← Array.toList_map, Array.toArray_toList]
        have hname' : fn.name ≠ "runtime.NumGoroutine" := by simpa using hname
        have hbody' : fn.body ≠ none := by intro hh; rw [hh] at hbody; cases hbody
        simp [execOp, ho, resolve, e3, Deferred.ofValue, er, invoke, callFunc, hfn, hname', hbody']
      rw [hrun]
      exact ⟨rfl, hcall⟩
  · exact hp.elim

theorem s_builtin (h : RepM cx σ N m w) (hfr : ∀ id, fr ≤ id → id < fr + 32 → N id) {b : Builtin} {args : Array Operand} {ts : Array TypeId} (ho : o.op = .call { callee := .builtin b, args := args, argTypes := ts }) (ht : TabOK P T)
    (hx : ∀ x ∈ opsOf o.op, repA (rx cx σ N m w) (av x) (ρ x)) (hp : (opEff T G o ((opsOf o.op).map av) m fr).pre) : Runs P w (Res cx σ N m w fr (opEff T G o ((opsOf o.op).map av) m fr)) ((execOp ρ o).run P w) := by
  rw [ho] at hx hp ⊢
  simp only [opEff, ho, opsOf, callOps, List.nil_append] at hx hp ⊢
  have e : args = args.toList.toArray := by simp
  cases b <;> try exact hp.elim
  case len =>
    generalize hl : args.toList = l at *
    match l, hp with
    | [x], hp => exact s_len h (by rw [ho, e]) ht (hx x (by simp)) hp
    | [], hp => exact hp.elim
    | _ :: _ :: _, hp => simp [builtinE] at hp; exact hp.elim
  case min =>
    generalize hl : args.toList = l at *
    match l, hp with
    | [x, y], hp => exact s_minmax h (.inl rfl) (by rw [ho, e]) (hx x (by simp)) (hx y (by simp)) hp
    | [], hp => exact hp.elim
    | [_], hp => simp [builtinE] at hp; exact hp.elim
    | _ :: _ :: _ :: _, hp => simp [builtinE] at hp; exact hp.elim
  case max =>
    generalize hl : args.toList = l at *
    match l, hp with
    | [x, y], hp => exact s_minmax h (.inr rfl) (by rw [ho, e]) (hx x (by simp)) (hx y (by simp)) hp
    | [], hp => exact hp.elim
    | [_], hp => simp [builtinE] at hp; exact hp.elim
    | _ :: _ :: _ :: _, hp => simp [builtinE] at hp; exact hp.elim
  case copy =>
    generalize hl : args.toList = l at *
    match l, hp with
    | [x, y], hp => exact s_copy h (by rw [ho, e]) ht (hx x (by simp)) (hx y (by simp)) hp
    | [], hp => exact hp.elim
    | [_], hp => simp [builtinE] at hp; exact hp.elim
    | _ :: _ :: _ :: _, hp => simp [builtinE] at hp; exact hp.elim
  case clear =>
    generalize hl : args.toList = l at *
    match l, hp with
    | [x], hp => exact s_clear h (by rw [ho, e]) ht (hx x (by simp)) hp
    | [], hp => exact hp.elim
    | _ :: _ :: _, hp => simp [builtinE] at hp; exact hp.elim
  case append =>
    generalize hl : args.toList = l at *
    match l, hp with
    | [x, y], hp =>
      have hx' := hx x (by simp)
      have hy' := hx y (by simp)
      simp only [List.map_cons, List.map_nil, builtinE] at hp ⊢
      split at hp <;> rename_i heq
      · rename_i c d
        simp at heq
        rw [heq.1] at hx'
        rw [heq.2] at hy'
        unfold repA at hx' hy'
        split at hp
        · rename_i hts
          rw [if_pos hts]
          obtain ⟨r, w', hr, hres⟩ := append_core (ty := o.type) h hfr ht hx' hy' hp
          refine runs_value (v := r) (w' := w') ?_ hres
          rw [call_builtin ho, e]
          rw [hts]
          simp only [builtin, List.map_toArray, List.map_cons, List.map_nil, Sem.run_bind]
          simp only [Array.getD_eq_getD_getElem?] at hr ⊢
          simp at hr ⊢
          rw [hr]
          rfl
        · exact hp.elim
      · exact hp.elim
    | [], hp => exact hp.elim
    | [_], hp => simp [builtinE] at hp; exact hp.elim
    | _ :: _ :: _ :: _, hp => simp [builtinE] at hp; exact hp.elim

theorem intOf_some {a : AV} {n : Int} (h : intOf? a = some n) : a = .one (.int .i64 n) := by
  unfold intOf? at h
  split at h
  · simp at h; subst h; rfl
  · cases h

theorem s_sliceR (h : RepM cx σ N m w) (hfr0 : N fr) {t : TypeId} {x : Operand} {lo hi mx : Option Operand} (ho : o.op = .slice t x lo hi mx) (ht : TabOK P T)
    (hx : ∀ y ∈ opsOf (.slice t x lo hi mx), repA (rx cx σ N m w) (av y) (ρ y)) (hp : (opEff T G o ((opsOf (.slice t x lo hi mx)).map av) m fr).pre) :
    ∃ r, (execOp ρ o).run P w = .ok (.value r) w ∧ Res cx σ N m w fr (opEff T G o ((opsOf (.slice t x lo hi mx)).map av) m fr) r w := by
  simp only [opEff, ho, opsOf] at hx hp ⊢
  simp only [List.cons_append, List.nil_append, List.map_cons] at hp ⊢
  have hx0 := hx x (by simp)
  split at hp <;> rename_i heq
  · rename_i e c rest hd
    simp only [List.cons.injEq] at heq
    obtain ⟨h1, h2⟩ := heq
    rw [h1] at hx0
    unfold repA at hx0
    split at hp
    · rename_i u hty
      cases hwf : wfOf G o.dst with
      | succ kk =>
       simp only [hwf] at hp ⊢
       have key : ∀ (l q : Option Int), lo.map ρ = l.map (.int .i64) → hi.map ρ = q.map (.int .i64) → mx = none → (winE m u fr c l q (kk + 1)).pre →
          ∃ r, (execOp ρ o).run P w = .ok (.value r) w ∧ Res cx σ N m w fr (winE m u fr c l q (kk + 1)) r w := by
        intro l q e1 e2 e3 hpre
        obtain ⟨r, hr, hres⟩ := s_winE h hfr0 hx0 ht hd hty e1 e2 hpre
        subst e3
        exact ⟨r, by simp only [execOp, ho, Option.map_none, Sem.run_bind, hr, Result.andThen_ok, Sem.run_pure], hres⟩
       have iv : ∀ (y : Operand) (n : Int), repA (rx cx σ N m w) (av y) (ρ y) → intOf? (av y) = some n → ρ y = .int .i64 n := by
        intro y n hr hi
        rw [intOf_some hi] at hr
        exact (of_int hr).1
       subst h2
       cases lo with
       | none =>
        cases hi with
        | none =>
          cases mx with
          | none => exact key none none rfl rfl rfl hp
          | some z => exact hp.elim
        | some q =>
          have hq := hx q (by simp)
          cases mx with
          | none =>
            simp only [Option.toList_none, Option.toList_some, List.map_cons, List.map_nil, List.nil_append, List.append_nil] at hp ⊢
            cases hb : intOf? (av q) with
            | none => rw [hb] at hp; exact hp.elim
            | some n => rw [hb] at hp; exact key none (some n) rfl (by rw [Option.map_some, iv q n hq hb]; rfl) rfl hp
          | some z => exact hp.elim
       | some l =>
        have hl := hx l (by simp)
        cases hi with
        | none =>
          cases mx with
          | none =>
            simp only [Option.toList_none, Option.toList_some, List.map_cons, List.map_nil, List.nil_append, List.append_nil] at hp ⊢
            cases hb : intOf? (av l) with
            | none => rw [hb] at hp; exact hp.elim
            | some n => rw [hb] at hp; exact key (some n) none (by rw [Option.map_some, iv l n hl hb]; rfl) rfl rfl hp
          | some z => exact hp.elim
        | some q =>
          have hq := hx q (by simp)
          cases mx with
          | none =>
            simp only [Option.toList_none, Option.toList_some, List.map_cons, List.map_nil, List.nil_append, List.append_nil, List.cons_append, List.map_append] at hp ⊢
            cases hb : intOf? (av l) with
            | none => rw [hb] at hp; exact hp.elim
            | some n =>
              rw [hb] at hp
              cases hb2 : intOf? (av q) with
              | none => rw [hb2] at hp; exact hp.elim
              | some k => rw [hb2] at hp; exact key (some n) (some k) (by rw [Option.map_some, iv l n hl hb]; rfl) (by rw [Option.map_some, iv q k hq hb2]; rfl) rfl hp
          | some z => exact hp.elim
      | zero =>
      simp only [hwf] at hp ⊢
      have key : ∀ (l q z : Option Int), (z.isSome = true → q.isSome = true) → lo.map ρ = l.map (.int .i64) → hi.map ρ = q.map (.int .i64) → mx.map ρ = z.map (.int .i64) → (sliceE m u c l q z).pre →
          ∃ r, (execOp ρ o).run P w = .ok (.value r) w ∧ Res cx σ N m w fr (sliceE m u c l q z) r w := by
        intro l q z hz e1 e2 e3 hpre
        obtain ⟨r, hr, hres⟩ := s_sliceE h hx0 ht hd hty e1 e2 e3 hz hpre
        exact ⟨r, by simp only [execOp, ho, Sem.run_bind, hr, Result.andThen_ok, Sem.run_pure], hres⟩
      have iv : ∀ (y : Operand) (n : Int), repA (rx cx σ N m w) (av y) (ρ y) → intOf? (av y) = some n → ρ y = .int .i64 n := by
        intro y n hr hi
        rw [intOf_some hi] at hr
        exact (of_int hr).1
      subst h2
      cases lo with
      | none =>
        cases hi with
        | none =>
          cases mx with
          | none => exact key none none none (by simp) rfl rfl rfl hp
          | some z => exact hp.elim
        | some q =>
          have hq := hx q (by simp)
          cases mx with
          | none =>
            simp only [Option.toList_none, Option.toList_some, List.map_cons, List.map_nil, List.nil_append, List.append_nil] at hp ⊢
            cases hb : intOf? (av q) with
            | none => rw [hb] at hp; exact hp.elim
            | some n => rw [hb] at hp; exact key none (some n) none (by simp) rfl (by rw [Option.map_some, iv q n hq hb]; rfl) rfl hp
          | some z =>
            have hz := hx z (by simp)
            simp only [Option.toList_none, Option.toList_some, List.map_cons, List.map_nil, List.nil_append, List.append_nil, List.cons_append, List.map_append] at hp ⊢
            cases hb : intOf? (av q) with
            | none => rw [hb] at hp; exact hp.elim
            | some n =>
              rw [hb] at hp
              cases hb2 : intOf? (av z) with
              | none => rw [hb2] at hp; exact hp.elim
              | some k => rw [hb2] at hp; exact key none (some n) (some k) (by simp) rfl (by rw [Option.map_some, iv q n hq hb]; rfl) (by rw [Option.map_some, iv z k hz hb2]; rfl) hp
      | some l =>
        have hl := hx l (by simp)
        cases hi with
        | none =>
          cases mx with
          | none =>
            simp only [Option.toList_none, Option.toList_some, List.map_cons, List.map_nil, List.nil_append, List.append_nil] at hp ⊢
            cases hb : intOf? (av l) with
            | none => rw [hb] at hp; exact hp.elim
            | some n => rw [hb] at hp; exact key (some n) none none (by simp) (by rw [Option.map_some, iv l n hl hb]; rfl) rfl rfl hp
          | some z => exact hp.elim
        | some q =>
          have hq := hx q (by simp)
          cases mx with
          | none =>
            simp only [Option.toList_none, Option.toList_some, List.map_cons, List.map_nil, List.nil_append, List.append_nil, List.cons_append, List.map_append] at hp ⊢
            cases hb : intOf? (av l) with
            | none => rw [hb] at hp; exact hp.elim
            | some n =>
              rw [hb] at hp
              cases hb2 : intOf? (av q) with
              | none => rw [hb2] at hp; exact hp.elim
              | some k => rw [hb2] at hp; exact key (some n) (some k) none (by simp) (by rw [Option.map_some, iv l n hl hb]; rfl) (by rw [Option.map_some, iv q k hq hb2]; rfl) rfl hp
          | some z =>
            have hz := hx z (by simp)
            simp only [Option.toList_none, Option.toList_some, List.map_cons, List.map_nil, List.nil_append, List.append_nil, List.cons_append, List.map_append] at hp ⊢
            cases hb : intOf? (av l) with
            | none => rw [hb] at hp; exact hp.elim
            | some n =>
              rw [hb] at hp
              cases hb2 : intOf? (av q) with
              | none => rw [hb2] at hp; exact hp.elim
              | some k =>
                rw [hb2] at hp
                cases hb3 : intOf? (av z) with
                | none => rw [hb3] at hp; exact hp.elim
                | some j => rw [hb3] at hp; exact key (some n) (some k) (some j) (by simp) (by rw [Option.map_some, iv l n hl hb]; rfl) (by rw [Option.map_some, iv q k hq hb2]; rfl) (by rw [Option.map_some, iv z j hz hb3]; rfl) hp
    · exact hp.elim
  · exact hp.elim

/-- ALL THE OPERATIONS. -/
theorem s_slice (h : RepM cx σ N m w) (hfr0 : N fr) {t : TypeId} {x : Operand} {lo hi mx : Option Operand} (ho : o.op = .slice t x lo hi mx) (ht : TabOK P T)
    (hx : ∀ y ∈ opsOf (.slice t x lo hi mx), repA (rx cx σ N m w) (av y) (ρ y)) (hp : (opEff T G o ((opsOf (.slice t x lo hi mx)).map av) m fr).pre) :
    Runs P w (Res cx σ N m w fr (opEff T G o ((opsOf (.slice t x lo hi mx)).map av) m fr)) ((execOp ρ o).run P w) := by
  obtain ⟨r, hr, hres⟩ := s_sliceR h hfr0 ho ht hx hp
  exact runs_value hr hres
theorem s_index (h : RepM cx σ N m w) {t : TypeId} {x y : Operand} (ho : o.op = .index t x y) (ht : TabOK P T) (hx : repA (rx cx σ N m w) (av x) (ρ x)) (hy : repA (rx cx σ N m w) (av y) (ρ y))
    (hp : (opEff T G o [av x, av y] m fr).pre) : Runs P w (Res cx σ N m w fr (opEff T G o [av x, av y] m fr)) ((execOp ρ o).run P w) := by
  simp only [opEff, ho] at hp ⊢
  split at hp <;> rename_i heq
  · rename_i q k i hd
    simp at heq
    rw [heq.1] at hx
    rw [heq.2] at hy
    have hu := (TI.of_ok ht t (fun e => by rw [e] at hd; cases hd)).str hd
    obtain ⟨ey, _⟩ := of_int hy
    have ex : ρ x = .string q := by unfold repA repC at hx; exact hx.1
    have hi : i.toNat < q.size := by have := hp.1; have := hp.2; omega
    have hb : byteAt q i = ((q[i.toNat]'hi).toNat : Int) := by unfold byteAt; rw [ByteArray.getElem?_lt' _ _ hi]; rfl
    refine runs_value (v := .int .u8 (byteAt q i)) (w' := w) ?_ (Res.pure h rfl ?_ trivial)
    · simp only [execOp, ho, ex, ey, Sem.run_bind, run_index_string w t q k i hu, dif_pos hp, Result.andThen_ok, Sem.run_pure, hb]
    · unfold repA repC
      refine ⟨rfl, ?_⟩
      have := (q[i.toNat]'hi).toNat_lt
      rw [hb]
      simp only [InR, IntKind.min, IntKind.max, IntKind.signed, IntKind.bits]
      simp; omega
  · exact hp.elim
/-- A slice of a slice whose value nobody takes: a check. -/
theorem s_slice_chk (h : RepM cx σ N m w) (hfr0 : N fr) (ho : isSl o.op = true) (ht : TabOK P T)
    (hx : ∀ y ∈ opsOf o.op, repA (rx cx σ N m w) (av y) (ρ y)) {b : Bool} {C : Chc} (hC : chkC (opEff T G o ((opsOf o.op).map av) m fr) b = some C) (hp : C.pre) :
    Runs P w (fun v w' => ∃ a, Res cx σ N m w fr ⟨C.pre, C.r a, C.u a, C.asm a⟩ v w') ((execOp ρ o).run P w) := by
  cases b with
  | false => cases hC
  | true =>
    cases hC
    cases e : o.op with
    | slice t x lo hi mx =>
      rw [e] at hx hp
      obtain ⟨r, hr, _⟩ := s_sliceR h hfr0 e ht hx hp
      exact runs_value hr ⟨(), Res.pure h rfl (by unfold repA repC; trivial) trivial⟩
    | _ => rw [e] at ho; cases ho

theorem opEff_sound (h : RepM cx σ N m w) (hfr : ∀ id, fr ≤ id → id < fr + 32 → N id) (ht : TabOK P T) (hG : EnvOk P G)
    (hx : ∀ x ∈ opsOf o.op, repA (rx cx σ N m w) (av x) (ρ x)) (hc : ∀ v, ρ (.const v) = v)
    (hp : (opEff T G o ((opsOf o.op).map av) m fr).pre) : Runs P w (Res cx σ N m w fr (opEff T G o ((opsOf o.op).map av) m fr)) ((execOp ρ o).run P w) := by
  cases ho : o.op with
  | move x =>
    rw [ho] at hx hp
    refine runs_value (v := ρ x) (w' := w) (by simp [execOp, ho]) ?_
    have h1 := hx x (by simp [opsOf])
    simp only [opEff, ho, opsOf, List.map_cons, List.map_nil] at hp ⊢
    cases hw : wfOf G o.dst with
    | zero => exact okr_res h h1
    | succ k => rw [hw] at hp; exact s_mvE h (hfr fr (Nat.le_refl _) (by omega)) h1 hp
  | assign x => rw [ho] at hx hp; exact s_assign h hfr ho ht (hx x (by simp [opsOf])) (fun v e => by rw [e]; exact hc v) hp
  | pick c a b => rw [ho] at hx hp; exact s_pick h ho (hx c (by simp [opsOf])) (hx a (by simp [opsOf])) (hx b (by simp [opsOf])) hp
  | alloc t => rw [ho] at hx hp; exact s_alloc h hfr ho ht hp
  | box t x => rw [ho] at hx hp; exact s_box h hfr ho (hx x (by simp [opsOf])) hp
  | build t ps => have := s_build h hfr ho ht hx hp; rwa [ho] at this
  | buildSlice t l ps => have := s_buildSlice h hfr ho ht hx hp; rwa [ho] at this
  | load t x => rw [ho] at hx hp; exact s_load h ho ht (hx x (by simp [opsOf])) hp
  | store t x y => rw [ho] at hx hp; exact s_store h ho ht (hx x (by simp [opsOf])) (hx y (by simp [opsOf])) hp
  | nilCheck x => rw [ho] at hx hp; exact s_nilCheck h ho (hx x (by simp [opsOf])) hp
  | binOp op t x y u => rw [ho] at hx hp; exact s_binOp h ho ht (hx x (by simp [opsOf])) (hx y (by simp [opsOf])) hp
  | unOp op t x =>
    rw [ho] at hx hp
    cases op with
    | not => exact s_not h ho (hx x (by simp [opsOf])) hp
    | neg => exact s_neg h ho (hx x (by simp [opsOf])) hp
    | _ => simp only [opEff, ho] at hp; exact hp.elim
  | convert s t x => rw [ho] at hx hp; exact s_convert h ho ht (hx x (by simp [opsOf])) hp
  | makeFunc fn a b => have := s_makeFunc (P := P) h ho hx hp; rwa [ho] at this
  | makeMap t r => have := s_makeMap (ρ := ρ) (av := av) h hfr ho ht hp; rwa [ho] at this
  | slice t x lo hi mx =>
    rw [ho] at hx hp
    exact s_slice h (hfr fr (by omega) (by omega)) ho ht hx hp
  | fieldAddr t x f => rw [ho] at hx hp; exact s_fieldAddr h ho ht (hx x (by simp [opsOf])) hp
  | field t x f => rw [ho] at hx hp; exact s_field h ho ht (hx x (by simp [opsOf])) hp
  | index t x y => rw [ho] at hx hp; exact s_index h ho ht (hx x (by simp [opsOf])) (hx y (by simp [opsOf])) hp
  | indexAddr t x y => rw [ho] at hx hp; exact s_indexAddr h ho ht (hx x (by simp [opsOf])) (hx y (by simp [opsOf])) hp
  | makeSlice t x y => rw [ho] at hx hp; exact s_makeSlice h hfr ho ht (hx x (by simp [opsOf])) (hx y (by simp [opsOf])) hp
  | lookup t x y ok => rw [ho] at hx hp; exact s_lookup h ho ht (hx x (by simp [opsOf])) (hx y (by simp [opsOf])) hp
  | mapUpdate t x y z => rw [ho] at hx hp; exact s_mapUpdate h ho ht (hx x (by simp [opsOf])) (hx y (by simp [opsOf])) (hx z (by simp [opsOf])) hp
  | extract x i => rw [ho] at hx hp; exact s_extract h ho (hx x (by simp [opsOf])) hp
  | call c =>
    obtain ⟨callee, args, ts⟩ := c
    cases callee with
    | value f => have := s_callV h hfr ho hG hx hp; rwa [ho] at this
    | builtin b => have := s_builtin h hfr ho ht hx hp; rwa [ho] at this
    | invoke r n => rw [ho] at hp; simp only [opEff, ho] at hp; exact hp.elim
  | _ => rw [ho] at hp; simp only [opEff, ho] at hp; exact hp.elim


theorem run_equalIn_slnil (d : Nat) {t e : TypeId} {a : Option Addr} {n c : Nat} (h : P.underlying t = some (.slice e)) : (Op.equalIn (d + 1) t (.slice a n c) (.slice none 0 0)).run P w = .ok a.isNone w := by
  cases a <;> simp [Op.equalIn, run_underlying h]

/-- The operations that come to one of several effects. -/
theorem altE_sound (h : RepM cx σ N m w) (hfr : ∀ id, fr ≤ id → id < fr + 32 → N id) (ht : TabOK P T) (hG : EnvOk P G) {C : Chc}
    (hx : ∀ x ∈ opsOf o.op, repA (rx cx σ N m w) (av x) (ρ x)) (hc : ∀ v, ρ (.const v) = v) (hC : altE T G o.op ((opsOf o.op).map av) m fr = some C) (hp : C.pre) :
    Runs P w (fun v w' => ∃ a, Res cx σ N m w fr ⟨C.pre, C.r a, C.u a, C.asm a⟩ v w') ((execOp ρ o).run P w) := by
  cases ho : o.op with
  | binOp op t x y u =>
    rw [ho] at hx hC
    simp only [altE, opsOf, List.map_cons, List.map_nil] at hC
    have key : ∀ (q : Bool) (c : C1) (e : TypeId), av x = .one c → y = .const (.slice none 0 0) → (TI.of T t).desc = .slice e → (op = .eql ∧ q = true ∨ op = .neq ∧ q = false) → nilChc q (lenOf m c) = some C → Runs P w (fun v w' => ∃ a, Res cx σ N m w fr ⟨C.pre, C.r a, C.u a, C.asm a⟩ v w') ((execOp ρ o).run P w) := by
      intro q c e hcx hy hd hop hn
      unfold nilChc at hn
      split at hn
      · rename_i n hl
        cases hn
        have hxx := hx x (by simp [opsOf])
        rw [hcx] at hxx
        unfold repA at hxx
        obtain ⟨a, cap, e1, e2⟩ := lenOf_nil h hl hxx
        have hyv : ρ y = .slice none 0 0 := by rw [hy]; exact hc _
        have hst := (TI.of_ok ht t (fun k => by rw [k] at hd; cases hd)).slice e hd
        have hg : (eqGuard op t x y (ρ x) (ρ y)).run P w = .ok () w := by rw [e1, hyv]; unfold eqGuard; cases op <;> simp
        rcases hop with ⟨rfl, rfl⟩ | ⟨rfl, rfl⟩
        · have hrun : (execOp ρ o).run P w = .ok (.value (.bool a.isNone)) w := by
            simp only [execOp, ho, Sem.run_bind, hg, Result.andThen_ok]
            rw [e1, hyv]
            simp [binOp, Op.equal, Op.maxDepth, run_equalIn_slnil 9999 hst]
          rw [hrun]
          exact ⟨a.isNone, Res.pure h rfl (repA_bool _) (fun hb => e2 (by simpa using hb))⟩
        · have hrun : (execOp ρ o).run P w = .ok (.value (.bool (!a.isNone))) w := by
            simp only [execOp, ho, Sem.run_bind, hg, Result.andThen_ok]
            rw [e1, hyv]
            simp [binOp, Op.equal, Op.maxDepth, run_equalIn_slnil 9999 hst]
          rw [hrun]
          exact ⟨!a.isNone, Res.pure h rfl (repA_bool _) (fun hb => e2 (by simpa using hb))⟩
      · cases hn
    unfold altB at hC
    split at hC
    · rename_i c _ e hd heq
      simp only [List.cons.injEq, and_true] at heq
      exact key true c e heq.1 rfl hd (.inl ⟨rfl, rfl⟩) hC
    · rename_i c _ e hd heq
      simp only [List.cons.injEq, and_true] at heq
      exact key false c e heq.1 rfl hd (.inr ⟨rfl, rfl⟩) hC
    · cases hC
  | call c =>
    obtain ⟨callee, args, ts⟩ := c
    rw [ho] at hx hC
    cases callee with
    | value f =>
      have hreps := repAs_map (x := rx cx σ N m w) _ hx
      simp only [altE, opsOf, callOps, List.cons_append, List.nil_append, List.map_cons] at hC hreps
      unfold repAs at hreps
      obtain ⟨v, r, e, h1, h2⟩ := hreps
      simp only [List.cons.injEq] at e
      obtain ⟨e1, e2⟩ := e
      unfold altC at hC
      split at hC
      · rename_i g caps as heq
        simp only [List.cons.injEq] at heq
        rw [heq.1] at h1
        unfold repA repC at h1
        obtain ⟨vs, e3, h3⟩ := h1
        cases hf : findL G.r g with
        | none => rw [hf] at hC; cases hC
        | some D =>
          rw [hf] at hC
          cases hC
          obtain ⟨hok, ⟨fn, hfn, hname, hbody⟩⟩ := hG.r g D hf
          have hargs := repAs_append (as := as) (bs := caps.map .one) _ _ (heq.2 ▸ h2) (repAs_ones _ _ h3)
          have hcall := hok cx σ N m w fr (as ++ caps.map .one) (r ++ vs) h hfr hargs hp
          have hrun : (execOp ρ o).run P w = .ok (.enter g (r ++ vs).toArray) w := by
            rw [← e1] at e3
            have er : args.map ρ = r.toArray := by rw [← e2, ← Array.toList_map, Array.toArray_toList]
            have hname' : fn.name ≠ "runtime.NumGoroutine" := by simpa using hname
            have hbody' : fn.body ≠ none := by intro hh; rw [hh] at hbody; cases hbody
            simp [execOp, ho, resolve, e3, Deferred.ofValue, er, invoke, callFunc, hfn, hname', hbody']
          rw [hrun]
          exact ⟨rfl, hcall⟩
      · cases hC
    | _ => simp [altE] at hC
  | _ => rw [ho] at hC; simp [altE] at hC

end
end Go.Ev

/- A part of what is owned, alone; and back. -/
set_option linter.unusedSimpArgs false
set_option linter.unusedVariables false
namespace Go.Ev

section
variable {cx : Cx} {σ : Nat → Value} {N : Nat → Prop} {m : Mem} {w : World}

/-- The context in which the ids S alone are owned. -/
def sub (cx : Cx) (σ : Nat → Value) (m : Mem) (w : World) (S : List Nat) : Cx :=
  ⟨w, fun b => cx.F b ∨ ∃ id, S.contains id = false ∧ own (m id) = true ∧ blkOf (σ id) = some b, fun b => ∃ id, S.contains id = true ∧ own (m id) = true ∧ blkOf (σ id) = some b, cx.np, cx.arg⟩

theorem owned_sub (S : List Nat) (b : Nat) : Owned (sub cx σ m w S) σ (restr S m) b ↔ Owned cx σ m b := by
  unfold Owned sub restr
  constructor
  · rintro ((h | ⟨id, h1, h2, h3⟩) | ⟨id, h1, h2⟩)
    · exact .inl h
    · exact .inr ⟨id, h2, h3⟩
    · by_cases hs : S.contains id = true
      · rw [if_pos hs] at h1; exact .inr ⟨id, h1, h2⟩
      · rw [if_neg hs] at h1; cases h1
  · rintro (h | ⟨id, h1, h2⟩)
    · exact .inl (.inl h)
    · by_cases hs : S.contains id = true
      · exact .inr ⟨id, by rw [if_pos hs]; exact h1, h2⟩
      · exact .inl (.inr ⟨id, by simpa using hs, h1, h2⟩)

theorem keeps_sub (S : List Nat) : Rx.Keeps (rx cx σ N m w) (rx (sub cx σ m w S) σ N (restr S m) w) :=
  ⟨⟨fun b _ ho => ⟨fun h => ho ((owned_sub S b).1 h), rfl⟩⟩, fun _ _ => rfl, fun _ h => h⟩

theorem RepM.sub (h : RepM cx σ N m w) (S : List Nat) : RepM (sub cx σ m w S) σ N (restr S m) w := by
  have own_r : ∀ id, own (restr S m id) = true → S.contains id = true ∧ own (m id) = true := by
    intro id ho
    unfold restr at ho
    split at ho
    · rename_i hs; exact ⟨hs, ho⟩
    · cases ho
  refine ⟨fun id => ?_, fun id hn => ?_, fun id id' b ho ho' => ?_, fun id b ho hb => ?_, fun id b ho hb => ?_, ⟨rfl, rfl, rfl, Nat.le_refl _, Nat.le_refl _, fun _ _ _ => rfl⟩, fun b hb => ?_, h.hone, h.fix⟩
  · unfold restr
    split
    · by_cases hn : N id
      · rw [h.fresh id hn]; trivial
      · exact repB_keep (keeps_sub S) hn _ (h.blk id) (fun _ _ _ => rfl)
    · trivial
  · unfold restr; split
    · exact h.fresh id hn
    · rfl
  · exact h.inj id id' b (own_r id ho).2 (own_r id' ho').2
  · rintro (hf | ⟨i, h1, h2, h3⟩)
    · exact h.notF id b (own_r id ho).2 hb hf
    · have := h.inj id i b (own_r id ho).2 h2 hb h3
      subst this
      rw [(own_r id ho).1] at h1; cases h1
  · exact .inr ⟨id, (own_r id ho).1, (own_r id ho).2, hb⟩
  · rcases hb with hf | ⟨id, _, h2, h3⟩
    · exact h.hF b hf
    · exact repB_lt (h.blk id) h2 b h3

/-- Back: what was not touched stands as it stood. -/
theorem RepM.glue (h : RepM cx σ N m w) (S : List Nat) {σ' : Nat → Value} {N' : Nat → Prop} {m' : Mem} {w' : World} (h' : RepM (Ev.sub cx σ m w S) σ' N' m' w') (k : Rx.Keeps (rx (Ev.sub cx σ m w S) σ N (restr S m) w) (rx (Ev.sub cx σ m w S) σ' N' m' w'))
    (hm' : ∀ id, S.contains id = false → ¬ N id → m' id = .dead) (M : Mem) (hin : ∀ id, S.contains id = true → M id = m' id) (hnew : ∀ id, N id → M id = m' id) (hout : ∀ id, S.contains id = false → ¬ N id → M id = m id) :
    RepM cx σ' N' M w' ∧ Rx.Keeps (rx cx σ N m w) (rx cx σ' N' M w') ∧ Rx.Keeps (rx (Ev.sub cx σ m w S) σ' N' m' w') (rx cx σ' N' M w') := by
  have hσ : ∀ id, ¬ N id → σ' id = σ id := k.σ
  have part : ∀ id, own (M id) = true → (own (m' id) = true ∧ M id = m' id) ∨ (S.contains id = false ∧ ¬ N id ∧ own (m id) = true ∧ M id = m id ∧ σ' id = σ id) := by
    intro id ho
    by_cases hn : N id
    · have e := hnew id hn; rw [e] at ho; exact .inl ⟨ho, e⟩
    · by_cases hs : S.contains id = true
      · have e := hin id hs; rw [e] at ho; exact .inl ⟨ho, e⟩
      · have hs' : S.contains id = false := by simpa using hs
        have e := hout id hs' hn; rw [e] at ho; exact .inr ⟨hs', hn, ho, e, hσ id hn⟩
  have old_same : ∀ id b, S.contains id = false → own (m id) = true → blkOf (σ id) = some b → w'.heap[b]? = w.heap[b]? := by
    intro id b hs ho hb
    refine h'.evo.block b (repB_lt (h.blk id) ho b hb) ?_
    rintro ⟨i, h1, h2, h3⟩
    have := h.inj id i b ho h2 hb h3
    subst this
    rw [hs] at h1; cases h1
  have hO : ∀ b, Owned cx σ' M b ↔ Owned (Ev.sub cx σ m w S) σ' m' b := by
    intro b
    constructor
    · rintro (hf | ⟨id, ho, hb⟩)
      · exact .inl (.inl hf)
      · rcases part id ho with ⟨h1, h2⟩ | ⟨h1, h2, h3, h4, h5⟩
        · exact .inr ⟨id, h1, hb⟩
        · exact .inl (.inr ⟨id, h1, h3, by rw [← h5]; exact hb⟩)
    · rintro ((hf | ⟨id, h1, h2, h3⟩) | ⟨id, ho, hb⟩)
      · exact .inl hf
      · have hn : ¬ N id := fun hn => by rw [h.fresh id hn] at h2; cases h2
        exact .inr ⟨id, by rw [hout id h1 hn]; exact h2, by rw [hσ id hn]; exact h3⟩
      · refine .inr ⟨id, ?_, hb⟩
        by_cases hn : N id
        · rw [hnew id hn]; exact ho
        · by_cases hs : S.contains id = true
          · rw [hin id hs]; exact ho
          · rw [hm' id (by simpa using hs) hn] at ho; cases ho
  have k2 : Rx.Keeps (rx (Ev.sub cx σ m w S) σ' N' m' w') (rx cx σ' N' M w') := ⟨⟨fun b _ ho => ⟨fun hh => ho ((hO b).1 hh), rfl⟩⟩, fun _ _ => rfl, fun _ h => h⟩
  have kk : Rx.Keeps (rx cx σ N m w) (rx cx σ' N' M w') :=
    ⟨⟨fun b hb ho => by
      obtain ⟨h1, h2⟩ := k.k.blk b hb (fun hh => ho ((owned_sub S b).1 hh))
      exact ⟨fun hh => h1 ((hO b).1 hh), h2⟩⟩, k.σ, k.N⟩
  refine ⟨⟨fun id => ?_, fun id hn => ?_, fun id id' b ho ho' hb hb' => ?_, fun id b ho hb => ?_, fun id b ho hb => ?_, ?_, fun b hb => ?_, h'.hone, h'.fix⟩, kk, k2⟩
  · by_cases hn : N id
    · rw [hnew id hn]
      by_cases hn' : N' id
      · rw [h'.fresh id hn']; trivial
      · exact repB_keep k2 hn' _ (h'.blk id) (fun _ _ _ => rfl)
    · by_cases hs : S.contains id = true
      · rw [hin id hs]
        exact repB_keep k2 (fun hh => hn (k.N id hh)) _ (h'.blk id) (fun _ _ _ => rfl)
      · have hs' : S.contains id = false := by simpa using hs
        rw [hout id hs' hn]
        exact repB_keep kk hn _ (h.blk id) (fun ho b hb => old_same id b hs' ho hb)
  · have hn0 := k.N id hn
    rw [hnew id hn0]; exact h'.fresh id hn
  · rcases part id ho with ⟨h1, h2⟩ | ⟨h1, h2, h3, h4, h5⟩ <;> rcases part id' ho' with ⟨g1, g2⟩ | ⟨g1, g2, g3, g4, g5⟩
    · exact h'.inj id id' b h1 g1 hb hb'
    · exact absurd (.inr ⟨id', g1, g3, by rw [← g5]; exact hb'⟩) (h'.notF id b h1 hb)
    · exact absurd (.inr ⟨id, h1, h3, by rw [← h5]; exact hb⟩) (h'.notF id' b g1 hb')
    · exact h.inj id id' b h3 g3 (by rw [← h5]; exact hb) (by rw [← g5]; exact hb')
  · rcases part id ho with ⟨h1, h2⟩ | ⟨h1, h2, h3, h4, h5⟩
    · exact fun hf => h'.notF id b h1 hb (.inl hf)
    · exact h.notF id b h3 (by rw [← h5]; exact hb)
  · rcases part id ho with ⟨h1, h2⟩ | ⟨h1, h2, h3, h4, h5⟩
    · rcases h'.low id b h1 hb with hl | ⟨i, _, hi2, hi3⟩
      · have := h.evo.size; exact .inl (by simp only [Ev.sub] at hl; omega)
      · exact h.low i b hi2 hi3
    · exact h.low id b h3 (by rw [← h5]; exact hb)
  · refine ⟨h'.evo.os.trans h.evo.os, h'.evo.tape.trans h.evo.tape, h'.evo.output.trans h.evo.output, Nat.le_trans h.evo.drawn h'.evo.drawn, Nat.le_trans h.evo.size h'.evo.size, fun b hb hmu => ?_⟩
    have hsz := h.evo.size
    by_cases hmu' : (Ev.sub cx σ m w S).Mu b
    · obtain ⟨i, _, h2, h3⟩ := hmu'
      rcases h.low i b h2 h3 with h4 | h4
      · omega
      · exact absurd h4 hmu
    · rw [h'.evo.block b (by simp only [Ev.sub]; omega) hmu']
      exact h.evo.block b hb hmu
  · exact h'.hF b (.inl hb)

end
end Go.Ev
