/- Soundness of the operations: len, min, max, slices of slices, append. -/
import Derived.Test.YtjghgckdndggoaaEvOps4
set_option linter.unusedSimpArgs false
namespace Go.Ev

section
variable {cx : Cx} {σ : Nat → Value} {N : Nat → Prop} {m : Mem} {w : World} {P : Program} {T : Tab} {G : Env} {o : Oper} {fr : Nat} {ρ : Operand → Value} {av : Operand → AV}

theorem lenOf_view (h : RepM cx σ N m w) {c : C1} {n : Nat} {v : Value} (hl : lenOf m c = some n) (hc : repC (rx cx σ N m w) c v) :
    ∃ a cap, v = .slice a n cap ∧ n ≤ maxLen := by
  have key : ∀ (u : Ty) (xs : List u.den), view m u c = some xs → xs.length = n → ∃ a cap, v = .slice a n cap ∧ n ≤ maxLen := by
    intro u xs hv hn
    obtain ⟨a, k, cap, flat, e1, e2, e3, e4, _⟩ := view_read h hv hc
    exact ⟨a, cap, by rw [e1, e2, hn], by omega⟩
  cases c with
  | nilsl =>
    simp [lenOf] at hl; subst hl
    exact key .unit [] rfl rfl
  | sl u xs cp =>
    simp [lenOf] at hl
    exact key u xs (by simp [view, castTy]) hl
  | row id =>
    simp only [lenOf] at hl
    cases hm : m id with
    | row e u xs =>
      rw [hm] at hl
      exact key u xs (by simp [view, castTy, hm]) (by simpa using hl)
    | settled u xs =>
      rw [hm] at hl
      exact key u xs (by simp [view, castTy, hm]) (by simpa using hl)
    | _ => rw [hm] at hl; cases hl
  | _ => simp [lenOf] at hl

theorem lenOf_nil (h : RepM cx σ N m w) {c : C1} {n : Nat} {v : Value} (hl : lenOf m c = some n) (hc : repC (rx cx σ N m w) c v) :
    ∃ a cap, v = .slice a n cap ∧ (a = none → n = 0) := by
  have key : ∀ (u : Ty) (xs : List u.den), view m u c = some xs → xs.length = n → ∃ a cap, v = .slice a n cap ∧ (a = none → n = 0) := by
    intro u xs hv hn
    obtain ⟨a, k, cap, flat, e1, e2, e3, e4, _, e6⟩ := view_read h hv hc
    refine ⟨a, cap, by rw [e1, e2, hn], fun ha => ?_⟩
    rcases e6 with ⟨h1, _⟩ | ⟨b, o, h1, _⟩
    · omega
    · rw [ha] at h1; cases h1
  cases c with
  | nilsl =>
    simp [lenOf] at hl; subst hl
    exact key .unit [] rfl rfl
  | sl u xs cp =>
    simp [lenOf] at hl
    exact key u xs (by simp [view, castTy]) hl
  | row id =>
    simp only [lenOf] at hl
    cases hm : m id with
    | row e u xs =>
      rw [hm] at hl
      exact key u xs (by simp [view, castTy, hm]) (by simpa using hl)
    | settled u xs =>
      rw [hm] at hl
      exact key u xs (by simp [view, castTy, hm]) (by simpa using hl)
    | _ => rw [hm] at hl; cases hl
  | _ => simp [lenOf] at hl

theorem call_builtin {b : Builtin} {args : Array Operand} {ts : Array TypeId} (ho : o.op = .call { callee := .builtin b, args := args, argTypes := ts }) :
    (execOp ρ o).run P w = (builtin b ts o.type (args.map fun | .const _ => true | _ => false) (args.map ρ)).run P w := by
  simp only [execOp, ho, resolve, invoke, Sem.run_bind, Sem.run_pure, Result.andThen_ok]
  rfl

theorem in_len {n : Nat} (h : n ≤ maxLen) : InR .i64 (n : Int) := by
  unfold InR IntKind.min IntKind.max
  simp [IntKind.signed, IntKind.bits, maxLen] at *
  omega

theorem s_len (h : RepM cx σ N m w) {x : Operand} {ts : Array TypeId} (ho : o.op = .call { callee := .builtin .len, args := #[x], argTypes := ts }) (ht : TabOK P T) (hx : repA (rx cx σ N m w) (av x) (ρ x))
    (hp : (builtinE T .len ts [av x] m fr).pre) : Runs P w (Res cx σ N m w fr (builtinE T .len ts [av x] m fr)) ((execOp ρ o).run P w) := by
  simp only [builtinE] at hp ⊢
  split at hp <;> rename_i heq
  · rename_i c
    simp at heq
    rw [heq] at hx
    split at hp
    · rename_i t hts
      have hts' : ts = #[t] := by rw [← Array.toArray_toList (xs := ts), hts]
      subst hts'
      unfold repA at hx
      split at hp
      · rename_i s hd
        have hu := (TI.of_ok ht t (fun e => by rw [e] at hd; cases hd)).str hd
        unfold repC at hx
        obtain ⟨e1, e2⟩ := hx
        refine runs_value (v := .int .i64 s.size) (w' := w) ?_ (Res.pure h rfl (repA_int (in_len e2)) e2)
        rw [call_builtin ho]
        simp [builtin, e1, Builtin.len_, run_underlying hu, goInt]
      · rename_i c2 e hd
        split at hp
        · rename_i n hl
          have hu := (TI.of_ok ht t (fun e => by rw [e] at hd; cases hd)).slice e hd
          obtain ⟨a, cap, e1, e2⟩ := lenOf_view h hl hx
          refine runs_value (v := .int .i64 n) (w' := w) ?_ (Res.pure h rfl (repA_int (in_len e2)) e2)
          rw [call_builtin ho]
          simp [builtin, e1, Builtin.len_, run_underlying hu, goInt]
        · exact hp.elim
      · exact hp.elim
    · exact hp.elim
  · exact hp.elim

theorem s_minmax (h : RepM cx σ N m w) {x y : Operand} {ts : Array TypeId} {b : Builtin} (hb : b = .min ∨ b = .max) (ho : o.op = .call { callee := .builtin b, args := #[x, y], argTypes := ts }) (hx : repA (rx cx σ N m w) (av x) (ρ x)) (hy : repA (rx cx σ N m w) (av y) (ρ y))
    (hp : (builtinE T b ts [av x, av y] m fr).pre) : Runs P w (Res cx σ N m w fr (builtinE T b ts [av x, av y] m fr)) ((execOp ρ o).run P w) := by
  rcases hb with rfl | rfl
  · simp only [builtinE] at hp ⊢
    split at hp <;> rename_i heq
    · rename_i k a k' b
      simp at heq
      rw [heq.1] at hx
      rw [heq.2] at hy
      obtain ⟨e1, r1⟩ := of_int hx
      obtain ⟨e2, r2⟩ := of_int hy
      split at hp
      · rename_i hk
        subst hk
        simp only [if_true]
        refine runs_value (v := .int k (if b < a then b else a)) (w' := w) ?_ (res_in h fr k _ True (by split <;> assumption))
        rw [call_builtin ho]
        simp [builtin, e1, e2, run_min_int2]
      · exact hp.elim
    · exact hp.elim
  · simp only [builtinE] at hp ⊢
    split at hp <;> rename_i heq
    · rename_i k a k' b
      simp at heq
      rw [heq.1] at hx
      rw [heq.2] at hy
      obtain ⟨e1, r1⟩ := of_int hx
      obtain ⟨e2, r2⟩ := of_int hy
      split at hp
      · rename_i hk
        subst hk
        simp only [if_true]
        refine runs_value (v := .int k (if b > a then b else a)) (w' := w) ?_ (res_in h fr k _ True (by split <;> assumption))
        rw [call_builtin ho]
        simp [builtin, e1, e2, run_max_int2]
      · exact hp.elim
    · exact hp.elim

/-! ### slices of slices -/

theorem CellsAt.sub {w : World} {O : Nat → Prop} {b o : Nat} {pre vs post : List Value} (h : CellsAt w O b o (pre ++ (vs ++ post))) : CellsAt w O b (o + pre.length) vs := by
  intro j u hu
  have hj : j < vs.length := (List.getElem?_eq_some_iff.1 hu).1
  have := h (pre.length + j) u (by rw [List.getElem?_append_right (by omega), Nat.add_sub_cancel_left, List.getElem?_append_left hj]; exact hu)
  rwa [← Nat.add_assoc] at this

/-- A part of plain data is plain data. -/
theorem ro_sub {w : World} {O : Nat → Prop} {t : Ty} {xs : List t.den} {a : Option Addr} {len cap : Nat} (h : ro w O (.sl t) xs [.slice a len cap]) {l hi : Nat} (h1 : l ≤ hi) (h2 : hi ≤ xs.length) (mx : Nat) (h3 : hi ≤ mx) (h4 : mx ≤ cap) (s : Nat) (hs : s = t.n) :
    ro w O (.sl t) ((xs.take hi).drop l) [sliced a l hi mx s] := by
  subst hs
  obtain ⟨a', len', cap', e1, e2, e3, e4, e5⟩ := h
  simp at e1
  obtain ⟨rfl, rfl, rfl⟩ := e1
  have hlen : ((xs.take hi).drop l).length = hi - l := by simp; omega
  unfold sliced
  refine ⟨_, hi - l, mx - l, rfl, hlen.symm, by omega, by omega, ?_⟩
  rcases e5 with e6 | ⟨b, q, flat, rfl, e7, e8⟩
  · exact .inl (by omega)
  · have hx : xs = xs.take l ++ ((xs.take hi).drop l ++ xs.drop hi) := by
      have e1 : xs.take l = (xs.take hi).take l := by rw [List.take_take, Nat.min_eq_left h1]
      rw [e1, ← List.append_assoc, List.take_append_drop, List.take_append_drop]
    obtain ⟨pre, rest, hf, hp1, hp2⟩ := roAll_split _ _ flat (hx ▸ e7)
    obtain ⟨vs, post, hf2, hv, _⟩ := roAll_split _ _ rest hp2
    subst hf2
    subst hf
    have hpl : pre.length = l * t.n := by
      rw [roAll_len (fun x c => ro_len t x c) _ _ hp1, List.length_take, Nat.min_eq_left (by omega)]
    by_cases hm : mx = l
    · subst hm
      refine .inr ⟨b, q, vs, by simp, hv, ?_⟩
      have : hi - mx = 0 := by omega
      have hvs : vs = [] := List.eq_nil_of_length_eq_zero (by rw [roAll_len (fun x c => ro_len t x c) _ _ hv, hlen, this, Nat.zero_mul])
      subst hvs
      intro j u hu
      simp at hu
    · refine .inr ⟨b, q + l * t.n, vs, by rw [if_neg hm]; simp [add_none], hv, ?_⟩
      have := e8.sub
      rwa [hpl] at this

theorem s_sliceE (h : RepM cx σ N m w) {t e : TypeId} {u : Ty} {x : C1} {v : Value} (hx : repC (rx cx σ N m w) x v) (ht : TabOK P T) (hd : (TI.of T t).desc = .slice e) (hty : (TI.of T e).ty = some u)
    {lo hi mx : Option Int} {vl vh vm : Option Value} (hl : vl = lo.map (.int .i64)) (hh : vh = hi.map (.int .i64)) (hm : vm = mx.map (.int .i64)) (hmx : mx.isSome = true → hi.isSome = true)
    (hp : (sliceE m u x lo hi mx).pre) : ∃ r, (Instr.sliceAt t v vl vh vm).run P w = .ok r w ∧ Res cx σ N m w fr (sliceE m u x lo hi mx) r w := by
  unfold sliceE at hp ⊢
  split at hp
  · rename_i xs hv
    have hu := (TI.of_ok ht t (fun e => by rw [e] at hd; cases hd)).slice e hd
    have hte := TI.of_ok ht e (fun k => by rw [k] at hty; cases hty)
    obtain ⟨ii, hii, hs, _⟩ := hte.info
    have hun := (hte.ty u hty).1
    have hsn : ii.size = u.n := by rw [hs, hun]
    obtain ⟨a, len, cap, flat, rfl, rfl, hlc, hcm, _, _⟩ := view_read h hv hx
    -- once settled, it is plain data
    obtain ⟨q1, q2⟩ := h.settles (rowsOf [x])
    have hro : ro w (Owned cx σ (updM m ((rowsOf [x]).map (settle m)))) (.sl u) xs [.slice a xs.length cap] := by
      refine view_ro q1 (by rw [view_settle]; exact hv) (repC_keep q2 _ _ hx) (fun id hid => ?_)
      exact settled_not_own (m := m) (ids := rowsOf [x]) (t := .sl u) (cs := [x]) (y := xs) hv (fun _ hh => hh) id hid
    have hfin : ∀ (l h' mm : Nat) (cp : Bool) (p : Prop), l ≤ h' → h' ≤ xs.length → h' ≤ mm → mm ≤ cap → (cp = true → mm = h') →
        Res cx σ N m w fr ⟨p, .one (.sl u ((xs.take h').drop l) cp), (rowsOf [x]).map (settle m), True⟩ (sliced a l h' mm ii.size) w := by
      intro l h' mm cp p h1 h2 h3 h4 h5
      refine Res.settled h (ids := rowsOf [x]) rfl (fun _ _ => ?_) trivial
      unfold repA repC
      refine ⟨ro_sub hro h1 h2 mm h3 h4 ii.size hsn, fun hc => ?_⟩
      rw [h5 hc]
      exact ⟨_, _, rfl⟩
    have hz : (sizeOf (P.elem t)).run P w = .ok ii.size w := by rw [elem_of hu]; exact run_sizeOf hii
    have hPe : P.underlying t = some (.slice (P.elem t)) := by rw [elem_of hu]; exact hu
    have hat : ∀ lo hi mx, (Instr.sliceAt t (.slice a xs.length cap) lo hi mx).run P w = (Instr.slice t (.slice a xs.length cap) lo hi mx).run P w := fun lo hi mx => run_sliceAt_slice w t _ lo hi mx hPe
    rw [hat]
    subst hl; subst hh; subst hm
    cases mx with
    | none =>
      simp only [Option.map_none]
      obtain ⟨p1, p2, p3⟩ := hp
      cases lo with
      | none =>
        cases hi with
        | none =>
          refine ⟨_, by simp only [Option.map_none]; rw [run_slice_all w t a _ _ hPe, hz, Result.andThen_ok], ?_⟩
          have := hfin 0 xs.length cap false (0 ≤ (0 : Int) ∧ (0 : Int) ≤ xs.length ∧ (xs.length : Int) ≤ xs.length) (Nat.zero_le _) (Nat.le_refl _) hlc (Nat.le_refl _) (by simp)
          simpa using this
        | some q =>
          simp only [Option.getD_none, Option.getD_some] at p1 p2 p3
          refine ⟨_, by simp only [Option.map_none, Option.map_some]; rw [run_slice_h w t a _ _ hPe .i64 q (by omega) (by omega), hz, Result.andThen_ok], ?_⟩
          have := hfin 0 q.toNat cap false (0 ≤ (0 : Int) ∧ (0 : Int) ≤ q ∧ q ≤ xs.length) (Nat.zero_le _) (by omega) (by omega) (Nat.le_refl _) (by simp)
          simpa using this
      | some l =>
        cases hi with
        | none =>
          simp only [Option.getD_none, Option.getD_some] at p1 p2 p3
          refine ⟨_, by simp only [Option.map_none, Option.map_some]; rw [run_slice_l w t a _ _ hPe .i64 l (by omega) (by omega), hz, Result.andThen_ok], ?_⟩
          have := hfin l.toNat xs.length cap false (0 ≤ l ∧ l ≤ (xs.length : Int) ∧ (xs.length : Int) ≤ xs.length) (by omega) (Nat.le_refl _) hlc (Nat.le_refl _) (by simp)
          simpa using this
        | some q =>
          simp only [Option.getD_some] at p1 p2 p3
          refine ⟨_, by simp only [Option.map_none, Option.map_some]; rw [run_slice_lh w t a _ _ hPe .i64 .i64 l q (by omega) (by omega) (by omega), hz, Result.andThen_ok], ?_⟩
          exact hfin l.toNat q.toNat cap false _ (by omega) (by omega) (by omega) (Nat.le_refl _) (by simp)
    | some c =>
      obtain ⟨p1, p2, p3, p4⟩ := hp
      cases hi with
      | none => simp at hmx
      | some q =>
        cases lo with
        | none =>
          simp only [Option.getD_none, Option.getD_some] at p1 p2 p3 p4
          subst p4
          refine ⟨_, by simp only [Option.map_none, Option.map_some]; rw [run_slice_hm w t a _ _ hPe .i64 .i64 c c (by omega) (by omega) (by omega), hz, Result.andThen_ok], ?_⟩
          have := hfin 0 c.toNat c.toNat true (0 ≤ (0 : Int) ∧ (0 : Int) ≤ c ∧ c ≤ xs.length ∧ c = c) (Nat.zero_le _) (by omega) (Nat.le_refl _) (by omega) (fun _ => rfl)
          simpa using this
        | some l =>
          simp only [Option.getD_some] at p1 p2 p3 p4
          subst p4
          refine ⟨_, by simp only [Option.map_some]; rw [run_slice_lhm w t a _ _ hPe .i64 .i64 .i64 l c c (by omega) (by omega) (by omega) (by omega), hz, Result.andThen_ok], ?_⟩
          exact hfin l.toNat c.toNat c.toNat true _ (by omega) (by omega) (Nat.le_refl _) (by omega) (fun _ => rfl)
  · exact hp.elim

end
end Go.Ev
