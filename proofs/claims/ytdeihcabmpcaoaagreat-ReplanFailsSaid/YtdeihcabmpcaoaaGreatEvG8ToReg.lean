/- What is appended to a row's end by way of a window. -/
import Derived.Test.YtdeihcabmpcaoaaGreatEvOps12
import Derived.OrdersIn
set_option linter.unusedSimpArgs false
set_option linter.unusedVariables false
namespace Go.Ev

section
variable {cx : Cx} {σ : Nat → Value} {N : Nat → Prop} {m : Mem} {w : World} {P : Program} {T : Tab} {G : Env} {o : Oper} {fr : Nat} {ρ : Operand → Value} {av : Operand → AV}

/-- The old row is let go, a new one shows its end. -/
theorem que_fin (h : RepM cx σ N m w) (hfr0 : N fr) {id : Nat} {e : TypeId} {t : Ty} {xs zs : List t.den} (hn : ¬ N id) (hm : m id = .row e t xs) {v : Value} {flat : List Value} {w' : World} (h1 : v.oneCell' = true) (hv : ∃ a n c, v = .slice a n c)
 (hrow : RowR w' e t.n v zs.length flat) (hfl : roAll (ro w (Owned cx σ m) t) zs flat) (hw : ∀ b, b < w.heap.size → blkOf (σ id) ≠ some b → w'.heap[b]? = w.heap[b]?) (hb : ∀ b, blkOf v = some b → w.heap.size ≤ b ∨ blkOf (σ id) = some b)
 (hos : w'.os = w.os ∧ w'.tape = w.tape ∧ w'.output = w.output ∧ w.heap.size ≤ w'.heap.size ∧ w.drawn ≤ w'.drawn) {lo len : Nat} (hll : lo + len ≤ zs.length) {r : Value} (hr : ∃ a c a', v = .slice a zs.length c ∧ zs.length ≤ c ∧ r = .slice a' len (c - lo) ∧ (lo < c → ∃ b, a = some ⟨b, 0, none⟩ ∧ a' = some ⟨b, lo * t.n, none⟩)) {p q : Prop} (hq : q) :
 Res cx σ N m w fr ⟨p, .one (.win fr t.n lo len), [(id, .dead), (fr, .row e t zs)], q⟩ r w' := by
 have hne : id ≠ fr := fun k => hn (k ▸ hfr0)
 have oid : own (m id) = true := by rw [hm]; rfl
 have v1 : upd (upd m id Blk.dead) fr (.row e t zs) id = .dead := by rw [upd_ne _ _ hne, upd_same]
 have v2 : upd (upd m id Blk.dead) fr (.row e t zs) fr = .row e t zs := upd_same _ _ _
 have v3 : ∀ i, i ≠ id → i ≠ fr → upd (upd m id Blk.dead) fr (.row e t zs) i = m i := fun i h1 h2 => by rw [upd_ne _ _ h2, upd_ne _ _ h1]
 have hbv : ∀ b, Go.Ev.hb v b → blkOf v = some b := fun b hbb => by
  obtain ⟨a, n, c, e⟩ := hv
  rw [e] at hbb ⊢; exact hb_slice.1 hbb
 obtain ⟨g1, g2⟩ := h.step (σ' := upd σ fr v) (N' := Nx N fr) (m' := upd (upd m id .dead) fr (.row e t zs)) (w' := w') (fun i => i = id ∨ i = fr) (fun i k => k.1)
  (fun i k => by
    have h2 : i ≠ fr := fun e => k.2 (by omega)
    by_cases h1 : i = id
    · rw [h1, v1]
    · rw [v3 i h1 h2]; exact h.fresh i k.1)
  (fun i k => by simp only [not_or] at k; exact ⟨v3 i k.1 k.2, upd_ne _ _ k.2⟩) (fun i k => upd_ne _ _ (fun e => k (e ▸ hfr0)))
  (fun k hk hx => hw k hk (fun e => hx id (.inl rfl) oid (.inl e))) hos.2.2.2 hos.1 hos.2.1 hos.2.2.1
  (fun i b hi ho hbb => by
    rcases hi with rfl | rfl
    · rw [v1] at ho; cases ho
    · rw [upd_same] at hbb
      rcases hb b (hbv b hbb) with k | k
      · exact .inl k
      · exact .inr ⟨id, .inl rfl, oid, .inl k⟩)
  (fun i i' b hi hi' ho ho' _ _ => by
    rcases hi with rfl | rfl <;> rcases hi' with rfl | rfl <;> first | rfl | (rw [v1] at ho; cases ho) | (rw [v1] at ho'; cases ho'))
  (fun i hi => by
    rcases hi with rfl | rfl
    · rw [upd_ne _ _ hne]; exact h.hone i
    · rw [upd_same]; exact h1)
  (fun hk i hi => by
    rcases hi with rfl | rfl
    · rw [v1]; trivial
    · rw [v2]
      exact ⟨zs.length, flat, rfl, by simp only [rx]; rw [upd_same]; exact hrow, roAll_mono (ro_keep hk.k t) _ _ hfl⟩)
 refine ⟨upd σ fr v, g1, g2, ?_, hq⟩
 unfold repA repC
 obtain ⟨a, c, a', r1, r2, r3, r4⟩ := hr
 exact ⟨fun k => k.2 (by omega), a, zs.length, c, a', by simp only [rx]; rw [upd_same]; exact r1, hll, r2, r3, r4⟩

theorem s_que (h : RepM cx σ N m w) (hfr : ∀ id, fr ≤ id → id < fr + 32 → N id) (ht : TabOK P T) {C : Chc}
 (hx : ∀ x ∈ opsOf o.op, repA (rx cx σ N m w) (av x) (ρ x)) (hC : queO T o.op ((opsOf o.op).map av) m fr = some C) (hp : C.pre) :
 Runs P w (fun v w' => ∃ a, Res cx σ N m w fr ⟨C.pre, C.r a, C.u a, C.asm a⟩ v w') ((execOp ρ o).run P w) := by
 cases ho : o.op with
 | call c =>
   obtain ⟨callee, args, ts⟩ := c
   rw [ho] at hx hC
   simp only [queO] at hC
   split at hC
   · simp only [opsOf, callOps, List.nil_append] at hx hC
     have ea : args = args.toList.toArray := by simp
     generalize hl : args.toList = l at *
     match l, hC with
     | [y, x], hC =>
       have hy' := hx y (by simp)
       have hx' := hx x (by simp)
       simp only [List.map_cons, List.map_nil, queV] at hC
       split at hC <;> rename_i heq
       · rename_i id sz lo len c
         simp only [List.cons.injEq, and_true] at heq
         rw [heq.1] at hy'
         rw [heq.2] at hx'
         unfold repA at hy' hx'
         split at hC
         · rename_i hts
           generalize hst0 : ts.getD 0 0 = st at *
           unfold queC at hC
           split at hC
           · rename_i e hd
             split at hC
             · rename_i t hty
               split at hC
               · rename_i ys hv
                 unfold queB at hC
                 split at hC
                 · rename_i e' u xs0 hm
                   split at hC
                   · rename_i xs hcast
                     split at hC
                     · rename_i hee
                       obtain ⟨rfl, rfl⟩ := hee
                       obtain ⟨e1, rfl⟩ := castTy_eq hcast
                       subst e1
                       cases hC
                       obtain ⟨⟨hll, hy0⟩, hbd⟩ := hp
                       simp only at hll hbd
                       have hst := (TI.of_ok ht st (fun k => by rw [k] at hd; cases hd)).slice e' hd
                       have hte := TI.of_ok ht e' (fun k => by rw [k] at hty; cases hty)
                       obtain ⟨i, hi, hs, hby, z, hz, hzs, _⟩ := hte.info
                       obtain ⟨hun, hpos, hbp⟩ := hte.ty u hty
                       obtain ⟨ax, ny, capx, flatx, ex, rfl, hlcx, hcmx, hflx, hax⟩ := view_read h hv hx'
                       have hb63 : len + ys.length ≤ maxLen := by
                        have := Nat.le_mul_of_pos_right (len + ys.length) hbp
                        simp only [maxLen]; omega
                       have hbid := h.blk id
                       rw [hm] at hbid
                       obtain ⟨n', flat, hn', k1, k2⟩ := hbid
                       subst hn'
                       simp only [rx] at k1 k2
                       have hfl0 := roAll_len (fun x c => ro_len u x c) _ _ k2
                       have hlx := roAll_len (fun x c => ro_len u x c) _ _ hflx
                       have hcond := hy'
                       unfold repC at hcond
                       have hnid := hcond.1
                       simp only [rx] at hnid
                       have hn0 := hfr fr (by omega) (by omega)
                       -- what is appended
                       obtain ⟨bx, qx, rfl, hcx⟩ : ∃ b q, ax = some ⟨b, q, none⟩ ∧ ∀ j v, flatx[j]? = some v → w.cell? ⟨b, q + j, none⟩ = some v := by
                        rcases hax with ⟨_, q⟩ | q
                        · have : 0 < ys.length * u.n := Nat.mul_pos hy0 (by omega)
                          rw [q] at hlx; simp at hlx; omega
                        · exact q
                       -- the window's cells
                       have hwin : ∃ cap a', ρ y = .slice a' len (cap - lo) ∧ xs0.length ≤ cap ∧ cap ≤ maxLen ∧ ((cap = 0) ∨ ∃ g cur, 0 < cap ∧ σ id = .slice (some ⟨g, 0, none⟩) xs0.length cap ∧ w.heap[g]? = some (.cells cur e' (0, 0)) ∧ cur.size = cap * u.n ∧ cur.toList.take (xs0.length * u.n) = flat ∧ (lo < cap → a' = some ⟨g, lo * u.n, none⟩)) ∧ (cap = 0 → a' = none ∨ ∃ ab, a' = some ab) := by
                        rcases k1.2 with ⟨q1, a, q2⟩ | ⟨g, cap, cur, q1, q2, q3, q4, q5, q6, q7⟩
                        · obtain ⟨g1, g2, a', g3, g4⟩ := win_read hy' (by simp only [rx]; exact q2)
                          exact ⟨0, a', g3, by omega, by simp [maxLen], .inl rfl, fun _ => by cases a' <;> simp⟩
                        · obtain ⟨g1, g2, a', g3, g4⟩ := win_read hy' (by simp only [rx]; exact q2)
                          refine ⟨cap, a', g3, q4, q5, .inr ⟨g, cur, q1, q2, q3, q6, q7, fun hlt => ?_⟩, fun _ => by cases a' <;> simp⟩
                          obtain ⟨b, r1, r2⟩ := g4 hlt
                          simp only [Option.some.injEq, Addr.mk.injEq, and_true] at r1
                          rw [r2, ← r1]
                       obtain ⟨cap, a', hyv, hlc, hcm, hcase, _⟩ := hwin
                       have hdl : (xs0.drop lo).length = len := by simp; omega
                       have hdrop : roAll (ro w (Owned cx σ m) u) (xs0.drop lo) (flat.drop (lo * u.n)) := by
                        obtain ⟨p1, p2, f1, f2, f3⟩ := roAll_split (xs0.take lo) (xs0.drop lo) flat (by rw [List.take_append_drop]; exact k2)
                        have hp1 := roAll_len (fun x c => ro_len u x c) _ _ f2
                        rw [f1, List.drop_left' (by rw [hp1, List.length_take, Nat.min_eq_left (by omega)])]
                        exact f3
                       have hdfl := roAll_len (fun x c => ro_len u x c) _ _ hdrop
                       rw [hdl] at hdfl
                       have hcall : ∀ r w', (Builtin.append_ #[st, st] o.type #[ρ y, .slice (some ⟨bx, qx, none⟩) ys.length capx]).run P w = .ok r w' → (execOp ρ o).run P w = .ok (.value r) w' := by
                        intro r w' hr
                        rw [call_builtin ho, ea, hts]
                        simp only [builtin, List.map_toArray, List.map_cons, List.map_nil, Sem.run_bind]
                        rw [ex]
                        rw [hr]
                        rfl
                       -- a new array
                       have grow : ∀ base, ρ y = .slice base len (cap - lo) → cap - lo < len + ys.length → ((base = none ∧ len = 0 ∧ cap - lo = 0) ∨ ∃ ab, base = some ab ∧ ∀ j v, (flat.drop (lo * u.n))[j]? = some v → w.cell? (ab.add j) = some v) →
                        Runs P w (fun v w' => ∃ b : Bool, Res cx σ N m w fr ⟨(lo + len = xs0.length ∧ 0 < ys.length) ∧ (len + ys.length) * (TI.of T e').bytes ≤ 140737488355328, .one (.win fr u.n (if b then lo else 0) (len + ys.length)), [(id, .dead), (fr, .row e' u (if b then xs0 ++ ys else xs0.drop lo ++ ys))], True⟩ v w') ((execOp ρ o).run P w) := by
                        intro base hbase hlt hbs
                        have fresh : ∀ old, Res cx σ N m w fr ⟨(lo + len = xs0.length ∧ 0 < ys.length) ∧ (len + ys.length) * (TI.of T e').bytes ≤ 140737488355328, .one (.win fr u.n 0 (len + ys.length)), [(id, .dead), (fr, .row e' u (xs0.drop lo ++ ys))], True⟩
                         (.slice (some ⟨w.heap.size, 0, none⟩) (len + ys.length) (grownCap w (len + ys.length) old e')) (w.drew.alloc (.cells ((flat.drop (lo * u.n)).toArray ++ flatx.toArray ++ Builtin.zeroCells z.cells (grownCap w (len + ys.length) old e' - (len + ys.length))) e')) := by
                         intro old
                         have hge := grownCap_ge w (len + ys.length) old e'
                         have hcm2 := grownCap_le_maxLen w (len + ys.length) old e' hb63
                         have hzl : (xs0.drop lo ++ ys).length = len + ys.length := by rw [List.length_append, hdl]
                         have hfll : (flat.drop (lo * u.n) ++ flatx).length = (len + ys.length) * u.n := by rw [List.length_append, hdfl, hlx, Nat.add_mul]
                         have hgw := grown_world w (.cells ((flat.drop (lo * u.n)).toArray ++ flatx.toArray ++ Builtin.zeroCells z.cells (grownCap w (len + ys.length) old e' - (len + ys.length))) e')
                         refine que_fin h hn0 hnid hm (v := .slice (some ⟨w.heap.size, 0, none⟩) (len + ys.length) (grownCap w (len + ys.length) old e')) (flat := flat.drop (lo * u.n) ++ flatx) rfl ⟨_, _, _, rfl⟩ ?_ (roAll_append _ _ _ _ hdrop hflx) (fun b hb _ => hgw.1 b hb) (fun b hbb => ?_) ⟨hgw.2.1, hgw.2.2.1, hgw.2.2.2.1, hgw.2.2.2.2.1, hgw.2.2.2.2.2⟩ (by rw [hzl]; omega) ⟨_, _, _, by rw [hzl], by rw [hzl]; exact hge, by rw [Nat.sub_zero], fun _ => ⟨_, rfl, by rw [Nat.zero_mul]⟩⟩ trivial
                         · rw [hzl]
                           refine rowR_of hfll (heap_alloc_new w.drew _) hge hcm2 ?_ ?_
                           · simp only [Array.size_append, List.size_toArray, size_zeroCells, hzs, hdfl, hlx, hs, ← hun, ← Nat.add_mul]
                             congr 1
                             omega
                           · rw [← hfll]
                             simp only [Array.toList_append, List.append_assoc]
                             rw [← List.append_assoc]
                             exact List.take_left
                         · rw [blkOf_slice (by omega)] at hbb
                           simp only [Option.some.injEq] at hbb
                           exact .inl (by omega)
                        rcases hbs with ⟨rfl, rfl, hc0⟩ | ⟨ab, rfl, hab⟩
                        · have hf0 : flat.drop (lo * u.n) = [] := List.eq_nil_of_length_eq_zero (by rw [hdfl, Nat.zero_mul])
                          have hr := run_append_nil (P := P) w st o.type e' i z hst hi hz ⟨bx, qx, none⟩ ys.length capx flatx (by rw [hlx, hs, hun]) (fun j v hv => by rw [add_none]; exact hcx j v hv) hy0 (by simp only [maxLen] at hb63; omega) (by rw [hby]; simp only [Nat.zero_add] at hbd; omega)
                          have hf := fresh 0
                          rw [hf0] at hf
                          simp only [Nat.zero_add, List.nil_append] at hf hr ⊢
                          have := hcall _ _ (by rw [hbase, hc0]; exact hr)
                          rw [this]
                          refine ⟨false, ?_⟩
                          simpa using hf
                        · have hr := run_append_grow (P := P) w st o.type e' i z hst hi hz ab len (cap - lo) (flat.drop (lo * u.n)) (by rw [hdfl, hs, hun]) hab ⟨bx, qx, none⟩ ys.length capx flatx (by rw [hlx, hs, hun]) (fun j v hv => by rw [add_none]; exact hcx j v hv) hlt (by simp only [maxLen] at hb63; omega)
                           (growslice_fits hlt (by rw [hby]; exact hbd))
                          have := hcall _ _ (by rw [hbase]; exact hr)
                          rw [this]
                          exact ⟨false, by simpa using fresh (cap - lo)⟩
                       rcases hcase with hc0 | ⟨g, cur, hz0, hσ, hg, hcs, htk, hadr⟩
                       · have hl0 : len = 0 := by omega
                         have hlo0 : lo = 0 := by omega
                         refine grow a' hyv (by omega) ?_
                         cases a' with
                         | none => exact .inl ⟨rfl, hl0, by omega⟩
                         | some ab =>
                           refine .inr ⟨ab, rfl, fun j v hv => ?_⟩
                           rw [List.eq_nil_of_length_eq_zero (l := flat.drop (lo * u.n)) (by rw [hdfl, hl0, Nat.zero_mul])] at hv
                           simp at hv
                       · by_cases hroom : len + ys.length ≤ cap - lo
                         · have hlt : lo < cap := by omega
                           have ha' := hadr hlt
                           subst ha'
                           have hcz : cur.size = cur.toList.length := by simp
                           have hone := roAll_one _ _ hflx (fun x c hh => ro_one u x c hh)
                           have hofs : (lo + len) * u.n = xs0.length * u.n := by rw [hll]
                           have hfit : xs0.length * u.n + flatx.length ≤ cur.size := by
                            rw [hlx, hcs, ← Nat.add_mul]; exact Nat.mul_le_mul_right _ (by omega)
                           have hfc := run_firstCells_some (P := P) w i.size ys.length ⟨bx, qx, none⟩ ys.length capx flatx (by rw [hlx, hs, hun]) (fun j v hv => by rw [add_none]; exact hcx j v hv)
                           have hstc := run_storeCells_at P g (xs0.length * u.n) e' flatx 0 cur w hg (by omega) hone
                           simp only [Nat.add_zero] at hstc
                           have e5 : Addr.add ⟨g, lo * u.n, none⟩ (len * i.size) = ⟨g, xs0.length * u.n, none⟩ := by rw [add_none, hs, ← hun, ← Nat.add_mul, hll]
                           have hrun := hcall (.slice (some ⟨g, lo * u.n, none⟩) (len + ys.length) (cap - lo)) (w.setRow g (cur.toList.take (xs0.length * u.n) ++ flatx ++ cur.toList.drop (xs0.length * u.n + flatx.length)).toArray) (by
                            rw [hyv]
                            simp [Builtin.append_, run_underlying hst, sizeOf, typeInfo, hi, Builtin.lenOf, hroom, hfc, e5, hstc])
                           rw [hrun]
                           refine ⟨true, ?_⟩
                           simp only [if_true]
                           have hzl : (xs0 ++ ys).length = xs0.length + ys.length := List.length_append
                           have hfll : (flat ++ flatx).length = (xs0.length + ys.length) * u.n := by rw [List.length_append, hfl0, hlx, Nat.add_mul]
                           refine que_fin h hn0 hnid hm (v := .slice (some ⟨g, 0, none⟩) (xs0.length + ys.length) cap) (flat := flat ++ flatx) rfl ⟨_, _, _, rfl⟩ ?_ (roAll_append _ _ _ _ k2 hflx) (fun b _ hb => setRow_other w g b _ (fun e => hb (by rw [hσ, e]; exact blkOf_slice hz0))) (fun b hbb => ?_) ⟨rfl, rfl, rfl, by simp, Nat.le_refl _⟩ (by rw [hzl]; omega) ⟨_, _, _, by rw [hzl], by rw [hzl]; omega, rfl, fun _ => ⟨g, rfl, rfl⟩⟩ trivial
                           · rw [hzl]
                             refine rowR_of hfll (setRow_heap w g cur _ e' (0, 0) hg) (by omega) hcm ?_ ?_
                             · rw [← hcs, List.size_toArray, List.length_append, List.length_append, List.length_take, List.length_drop]; omega
                             · rw [← hfll, htk]
                               show List.take _ (flat ++ flatx ++ _) = _
                               exact List.take_left
                           · rw [blkOf_slice hz0] at hbb
                             exact .inr (by rw [hσ, blkOf_slice hz0]; exact hbb)
                         · refine grow a' hyv (by omega) ?_
                           by_cases hlt : lo < cap
                           · refine .inr ⟨_, hadr hlt, fun j v hv => ?_⟩
                             rw [add_none]
                             rw [List.getElem?_drop] at hv
                             exact rowR_cells k1 (by rw [hσ]; exact blkOf_slice hz0) _ v hv
                           · cases a' with
                             | none => exact .inl ⟨rfl, by omega, by omega⟩
                             | some ab =>
                               refine .inr ⟨ab, rfl, fun j v hv => ?_⟩
                               rw [List.eq_nil_of_length_eq_zero (l := flat.drop (lo * u.n)) (by rw [hdfl, show len = 0 by omega, Nat.zero_mul])] at hv
                               simp at hv
                     · cases hC
                   · cases hC
                 · cases hC
               · cases hC
             · cases hC
           · cases hC
         · cases hC
       · cases hC
     | [], hC => simp [queV] at hC
     | [_], hC => simp [queV] at hC
     | _ :: _ :: _ :: _, hC => simp [queV] at hC
   · cases hC
 | _ => rw [ho] at hC; simp [queO] at hC
end
end Go.Ev

/- A part of what is owned, alone; and back. -/
set_option linter.unusedSimpArgs false
set_option linter.unusedVariables false
namespace Go.Ev

section
variable {cx : Cx} {σ : Nat → Value} {N : Nat → Prop} {m : Mem} {w : World}

/-- The context in which the ids S alone are owned. -/
def sub (cx : Cx) (σ : Nat → Value) (m : Mem) (w : World) (S : List Nat) : Cx :=
 ⟨w, fun b => cx.F b ∨ ∃ id, S.contains id = false ∧ own (m id) = true ∧ hb (σ id) b, fun b => ∃ id, S.contains id = true ∧ own (m id) = true ∧ hb (σ id) b, cx.np, cx.arg, cx.mks, cx.tm, cx.D, cx.gv⟩

theorem owned_sub (S : List Nat) (b : Nat) : Owned (sub cx σ m w S) σ (restr S m) b ↔ Owned cx σ m b := by
 unfold Owned sub restr
 constructor
 · rintro ((h | ⟨id, h1, h2, h3⟩) | ⟨id, h1, h2⟩)
   · exact .inl h
   · exact .inr ⟨id, h2, h3⟩
   · by_cases hs : S.contains id = true
     · rw [if_pos hs] at h1; exact .inr ⟨id, h1, h2⟩
     · rw [if_neg hs] at h1; cases h1
 · rintro (h | ⟨id, h1, h2⟩)
   · exact .inl (.inl h)
   · by_cases hs : S.contains id = true
     · exact .inr ⟨id, by rw [if_pos hs]; exact h1, h2⟩
     · exact .inl (.inr ⟨id, by simpa using hs, h1, h2⟩)

theorem keeps_sub (S : List Nat) : Rx.Keeps (rx cx σ N m w) (rx (sub cx σ m w S) σ N (restr S m) w) :=
 ⟨.ex fun b _ ho => ⟨fun h => ho ((owned_sub S b).1 h), rfl⟩, fun _ _ => rfl, fun _ h => h⟩

theorem RepM.sub (h : RepM cx σ N m w) (S : List Nat) : RepM (sub cx σ m w S) σ N (restr S m) w := by
 have own_r : ∀ id, own (restr S m id) = true → S.contains id = true ∧ own (m id) = true := by
  intro id ho
  unfold restr at ho
  split at ho
  · rename_i hs; exact ⟨hs, ho⟩
  · cases ho
 refine ⟨fun id => ?_, fun id hn => ?_, fun id id' b ho ho' => ?_, fun id b ho hb => ?_, fun id b ho hb => ?_, ⟨rfl, rfl, rfl, fun _ => Nat.le_refl _, Nat.le_refl _, fun _ _ _ => rfl⟩, fun b hb => ?_, h.hone, h.fix, h.mks, h.gl_next rfl rfl (fun b hb => hb.imp id fun ⟨i, _, h2, h3⟩ => ⟨i, h2, h3⟩) (fun b ⟨i, _, h2, h3⟩ => ⟨i, h2, h3⟩)⟩
 · unfold restr
   split
   · by_cases hn : N id
     · rw [h.fresh id hn]; trivial
     · exact repB_keep (keeps_sub S) hn _ (h.blk id) (fun _ _ _ => rfl)
   · trivial
 · unfold restr; split
   · exact h.fresh id hn
   · rfl
 · exact h.inj id id' b (own_r id ho).2 (own_r id' ho').2
 · rintro (hf | ⟨i, h1, h2, h3⟩)
   · exact h.notF id b (own_r id ho).2 hb hf
   · have := h.inj id i b (own_r id ho).2 h2 hb h3
     subst this
     rw [(own_r id ho).1] at h1; cases h1
 · exact .inr ⟨id, (own_r id ho).1, (own_r id ho).2, hb⟩
 · rcases hb with hf | ⟨id, _, h2, h3⟩
   · exact h.hF b hf
   · exact repB_lt (h.blk id) h2 b h3

/-- Back: what was not touched stands as it stood. -/
theorem RepM.glue (h : RepM cx σ N m w) (S : List Nat) {σ' : Nat → Value} {N' : Nat → Prop} {m' : Mem} {w' : World} (h' : RepM (Ev.sub cx σ m w S) σ' N' m' w') (k : Rx.Keeps (rx (Ev.sub cx σ m w S) σ N (restr S m) w) (rx (Ev.sub cx σ m w S) σ' N' m' w'))
 (hm' : ∀ id, S.contains id = false → ¬ N id → m' id = .dead) (M : Mem) (hin : ∀ id, S.contains id = true → M id = m' id) (hnew : ∀ id, N id → M id = m' id) (hout : ∀ id, S.contains id = false → ¬ N id → M id = m id) :
 RepM cx σ' N' M w' ∧ Rx.Keeps (rx cx σ N m w) (rx cx σ' N' M w') ∧ Rx.Keeps (rx (Ev.sub cx σ m w S) σ' N' m' w') (rx cx σ' N' M w') := by
 have hσ : ∀ id, ¬ N id → σ' id = σ id := k.σ
 have part : ∀ id, own (M id) = true → (own (m' id) = true ∧ M id = m' id) ∨ (S.contains id = false ∧ ¬ N id ∧ own (m id) = true ∧ M id = m id ∧ σ' id = σ id) := by
  intro id ho
  by_cases hn : N id
  · have e := hnew id hn; rw [e] at ho; exact .inl ⟨ho, e⟩
  · by_cases hs : S.contains id = true
    · have e := hin id hs; rw [e] at ho; exact .inl ⟨ho, e⟩
    · have hs' : S.contains id = false := by simpa using hs
      have e := hout id hs' hn; rw [e] at ho; exact .inr ⟨hs', hn, ho, e, hσ id hn⟩
 have old_same : ∀ id b, S.contains id = false → own (m id) = true → hb (σ id) b → w'.heap[b]? = w.heap[b]? := by
  intro id b hs ho hb
  refine h'.evo.block b (repB_lt (h.blk id) ho b hb) ?_
  rintro ⟨i, h1, h2, h3⟩
  have := h.inj id i b ho h2 hb h3
  subst this
  rw [hs] at h1; cases h1
 have hO : ∀ b, Owned cx σ' M b ↔ Owned (Ev.sub cx σ m w S) σ' m' b := by
  intro b
  constructor
  · rintro (hf | ⟨id, ho, hb⟩)
    · exact .inl (.inl hf)
    · rcases part id ho with ⟨h1, h2⟩ | ⟨h1, h2, h3, h4, h5⟩
      · exact .inr ⟨id, h1, hb⟩
      · exact .inl (.inr ⟨id, h1, h3, by rw [← h5]; exact hb⟩)
  · rintro ((hf | ⟨id, h1, h2, h3⟩) | ⟨id, ho, hb⟩)
    · exact .inl hf
    · have hn : ¬ N id := fun hn => by rw [h.fresh id hn] at h2; cases h2
      exact .inr ⟨id, by rw [hout id h1 hn]; exact h2, by rw [hσ id hn]; exact h3⟩
    · refine .inr ⟨id, ?_, hb⟩
      by_cases hn : N id
      · rw [hnew id hn]; exact ho
      · by_cases hs : S.contains id = true
        · rw [hin id hs]; exact ho
        · rw [hm' id (by simpa using hs) hn] at ho; cases ho
 have k2 : Rx.Keeps (rx (Ev.sub cx σ m w S) σ' N' m' w') (rx cx σ' N' M w') := ⟨.ex fun b _ ho => ⟨fun hh => ho ((hO b).1 hh), rfl⟩, fun _ _ => rfl, fun _ h => h⟩
 have kk : Rx.Keeps (rx cx σ N m w) (rx cx σ' N' M w') :=
  ⟨⟨fun b hb ho => by
    obtain ⟨h1, h2⟩ := k.k.blk b hb (fun hh => ho ((owned_sub S b).1 hh))
    exact ⟨fun hh => h1 ((hO b).1 hh), h2⟩⟩, k.σ, k.N⟩
 refine ⟨⟨fun id => ?_, fun id hn => ?_, fun id id' b ho ho' hb hb' => ?_, fun id b ho hb => ?_, fun id b ho hb => ?_, ?_, fun b hb => ?_, h'.hone, h'.fix, h'.mks, h.gl⟩, kk, k2⟩
 · by_cases hn : N id
   · rw [hnew id hn]
     by_cases hn' : N' id
     · rw [h'.fresh id hn']; trivial
     · exact repB_keep k2 hn' _ (h'.blk id) (fun _ _ _ => rfl)
   · by_cases hs : S.contains id = true
     · rw [hin id hs]
       exact repB_keep k2 (fun hh => hn (k.N id hh)) _ (h'.blk id) (fun _ _ _ => rfl)
     · have hs' : S.contains id = false := by simpa using hs
       rw [hout id hs' hn]
       exact repB_keep kk hn _ (h.blk id) (fun ho b hb => old_same id b hs' ho hb)
 · have hn0 := k.N id hn
   rw [hnew id hn0]; exact h'.fresh id hn
 · rcases part id ho with ⟨h1, h2⟩ | ⟨h1, h2, h3, h4, h5⟩ <;> rcases part id' ho' with ⟨g1, g2⟩ | ⟨g1, g2, g3, g4, g5⟩
   · exact h'.inj id id' b h1 g1 hb hb'
   · exact absurd (.inr ⟨id', g1, g3, by rw [← g5]; exact hb'⟩) (h'.notF id b h1 hb)
   · exact absurd (.inr ⟨id, h1, h3, by rw [← h5]; exact hb⟩) (h'.notF id' b g1 hb')
   · exact h.inj id id' b h3 g3 (by rw [← h5]; exact hb) (by rw [← g5]; exact hb')
 · rcases part id ho with ⟨h1, h2⟩ | ⟨h1, h2, h3, h4, h5⟩
   · exact fun hf => h'.notF id b h1 hb (.inl hf)
   · exact h.notF id b h3 (by rw [← h5]; exact hb)
 · rcases part id ho with ⟨h1, h2⟩ | ⟨h1, h2, h3, h4, h5⟩
   · rcases h'.low id b h1 hb with hl | ⟨i, _, hi2, hi3⟩
     · have := h.evo.size; exact .inl (by simp only [Ev.sub] at hl; omega)
     · exact h.low i b hi2 hi3
   · exact h.low id b h3 (by rw [← h5]; exact hb)
 · refine ⟨h'.evo.os.trans h.evo.os, h'.evo.tape.trans h.evo.tape, h'.evo.output.trans h.evo.output, fun d => Nat.le_trans (h.evo.drawn d) (h'.evo.drawn d), Nat.le_trans h.evo.size h'.evo.size, fun b hb hmu => ?_⟩
   have hsz := h.evo.size
   by_cases hmu' : (Ev.sub cx σ m w S).Mu b
   · obtain ⟨i, _, h2, h3⟩ := hmu'
     rcases h.low i b h2 h3 with h4 | h4
     · omega
     · exact absurd h4 hmu
   · rw [h'.evo.block b (by simp only [Ev.sub]; omega) hmu']
     exact h.evo.block b hb hmu
 · exact h'.hF b (.inl hb)

end
end Go.Ev

/- A frame, its operands; a region whose operations go in order. -/
set_option linter.unusedSimpArgs false
set_option linter.unusedVariables false
namespace Go.Ev

section
variable {F : Fence} {nn : Nat} {cx : Cx} {σ : Nat → Value} {N : Nat → Prop} {s : Nat → AV} {m : Mem} {n : Nat} {a : Act} {w : World} {P : Program} {T : Tab} {G : Env}

/-- The mark of a range over a function. -/
def markD (D : Nat) : Deferred := { target := .collected D, args := #[] }

structure RepF (cx : Cx) (σ : Nat → Value) (N : Nat → Prop) (s : Nat → AV) (m : Mem) (n : Nat) (a : Act) (w : World) : Prop where
 mm : RepM cx σ N m w
 ss : ∀ i, repA (rx cx σ N m w) (s i) (a.tmps.getD i undef)
 df : a.defers = cx.mks.map markD
 sz : a.tmps.size = n
 fx : ∀ i v, cx.tm i = some v → a.tmps.getD i undef = v

theorem RepM.sealB {cx : Cx} {σ : Nat → Value} {N : Nat → Prop} {m : Mem} {w : World} (h : RepM cx σ N m w) (id : Nat) : RepM cx σ N (sealB m id (m id) (m (fidOf (m id)))) w ∧ Rx.Keeps (rx cx σ N m w) (rx cx σ N (sealB m id (m id) (m (fidOf (m id)))) w) := by
 have k0 : Rx.Keeps (rx cx σ N m w) (rx cx σ N m w) := ⟨Keep.refl _ _, fun _ _ => rfl, fun _ h => h⟩
 unfold Go.Ev.sealB
 split
 · rename_i e t p fid xs e2 u xss hm hf
   rw [hm] at hf
   simp only [fidOf] at hf
   split
   · rename_i ht
     have hn : ¬ N id := fun k => by rw [h.fresh id k] at hm; cases hm
     exact seal_here h hn hm hf ht
   · exact ⟨h, k0⟩
 · exact ⟨h, k0⟩
theorem RepM.seals {cx : Cx} {σ : Nat → Value} {N : Nat → Prop} {w : World} : ∀ (gs : List Nat) {m : Mem}, RepM cx σ N m w → RepM cx σ N (sealM gs m) w ∧ Rx.Keeps (rx cx σ N m w) (rx cx σ N (sealM gs m) w)
 | [], _, h => ⟨h, ⟨Keep.refl _ _, fun _ _ => rfl, fun _ h => h⟩⟩
 | id :: gs, m, h => by
   obtain ⟨h1, h2⟩ := h.sealB id
   obtain ⟨h3, h4⟩ := RepM.seals gs h1
   exact ⟨h3, ⟨h2.k.trans h4.k (Nat.le_refl _), fun _ _ => rfl, fun _ h => h⟩⟩
theorem RepF.seals {cx : Cx} {σ : Nat → Value} {N : Nat → Prop} {s : Nat → AV} {m : Mem} {n : Nat} {a : Act} {w : World} (h : RepF cx σ N s m n a w) (gs : List Nat) : RepF cx σ N s (sealM gs m) n a w := by
 obtain ⟨h1, h2⟩ := h.mm.seals gs
 exact ⟨h1, fun i => repA_keep h2 _ _ (h.ss i), h.df, h.sz, h.fx⟩
theorem const1_rep {x : Rx} {v : Value} (h : fineV1 v = true) : repC x (constC v) v := by
 cases v with
 | int k q => unfold constC repC; exact ⟨rfl, by unfold InR; simpa [fineV1] using h⟩
 | bool b => unfold constC repC; rfl
 | string s =>
   unfold constC repC
   refine ⟨rfl, ?_⟩
   have : s.size ≤ 1048576 := by simpa [fineV1] using h
   simp only [maxLen]; omega
 | slice ad l c =>
   cases ad with
   | none =>
     have : l = 0 ∧ c = 0 := by simpa [fineV1] using h
     rw [this.1, this.2]; unfold constC repC; rfl
   | some _ => unfold constC repC; trivial
 | pointer ad => cases ad <;> (unfold constC repC; first | rfl | trivial)
 | nilFunc => unfold constC repC; rfl
 | _ => unfold constC repC; trivial

theorem const1s_rep {x : Rx} : ∀ vs : List Value, vs.all fineV1 = true → repCs x (vs.map constC) vs
 | [], _ => repCs_nil.2 rfl
 | v :: vs, h => by
   simp only [List.all_cons, Bool.and_eq_true] at h
   exact repCs_cons.2 ⟨v, vs, rfl, const1_rep h.1, const1s_rep vs h.2⟩

theorem opd_rep (h : RepF cx σ N s m n a w) {y : Operand} (hy : fineX y = true) : repA (rx cx σ N m w) (opd s y) (a.eval y) := by
 cases y with
 | tmp t => exact h.ss t
 | const v =>
   show repA _ (constAV v) v
   have hv : fineV v = true := hy
   cases v with
   | agg cs =>
     unfold constAV repA
     exact ⟨cs.toList, by simp, const1s_rep _ hv⟩
   | _ => unfold constAV repA; exact const1_rep hv
 | global g => unfold opd repA repC; trivial
 | func f => unfold opd repA repC; exact ⟨[], rfl, repCs_nil.2 rfl⟩

def updS (s : Nat → AV) (dst : Option Nat) (v : AV) : Nat → AV :=
 match dst with
 | some d => fun i => if d = i then v else s i
 | none => s

theorem sget_put (s : Slots) (dst : Option Nat) (v : AV) : sget (putS s dst v) = updS (sget s) dst v := by
 cases dst with
 | none => rfl
 | some d =>
   funext i
   exact getL_setL _ s d v i

theorem RepF.put {σ' : Nat → Value} {N' : Nat → Prop} {m' : Mem} {w' : World} (h : RepF cx σ N s m n a w) (h1 : RepM cx σ' N' m' w') (k : Rx.Keeps (rx cx σ N m w) (rx cx σ' N' m' w')) {dst : Option Nat} {r : AV} {v : Value} (hv : repA (rx cx σ' N' m' w') r v)
 (hd : ∀ d, dst = some d → d < n ∧ cx.tm d = none) : RepF cx σ' N' (updS s dst r) m' n (a.put dst v) w' := by
 refine ⟨h1, fun i => ?_, ?_, ?_, fun i u hu => ?_⟩
 · cases dst with
   | none => exact repA_keep k _ _ (h.ss i)
   | some d =>
     have hlt : d < a.tmps.size := by rw [h.sz]; exact (hd d rfl).1
     by_cases e : d = i
     · subst e
       simp only [updS, if_true, Act.put]
       rw [Array.getD_eq_getD_getElem?, Array.getElem?_setIfInBounds_self_of_lt hlt]
       exact hv
     · simp only [updS, if_neg e, Act.put]
       rw [Array.getD_eq_getD_getElem?, Array.getElem?_setIfInBounds_ne e, ← Array.getD_eq_getD_getElem?]
       exact repA_keep k _ _ (h.ss i)
 · cases dst <;> exact h.df
 · cases dst with
   | none => exact h.sz
   | some d => simp only [Act.put, Array.size_setIfInBounds]; exact h.sz
 · cases dst with
   | none => exact h.fx i u hu
   | some d =>
     have hne : d ≠ i := fun e => by rw [e] at hd; rw [(hd i rfl).2] at hu; cases hu
     simp only [Act.put]
     rw [Array.getD_eq_getD_getElem?, Array.getElem?_setIfInBounds_ne hne, ← Array.getD_eq_getD_getElem?]
     exact h.fx i u hu

/-- An operation that a walk may meet: fine, and it writes no slot that is fixed. -/
def Fo (cx : Cx) (n : Nat) (o : Oper) : Prop := fineO n o = true ∧ ∀ d, o.dst = some d → cx.tm d = none

theorem fineO_dst {o : Oper} (h : Fo cx n o) : ∀ d, o.dst = some d → d < n ∧ cx.tm d = none := by
 intro d hd
 refine ⟨?_, h.2 d hd⟩
 have h := h.1
 simp only [fineO, hd, Bool.and_eq_true, decide_eq_true_eq] at h
 exact h.1.1
theorem fineO_def {o : Oper} (h : Fo cx n o) : ∀ c, o.op ≠ .defer c := by
 intro c e
 have h := h.1
 simp only [fineO, e, Bool.and_false, Bool.false_eq_true] at h
theorem fineO_ops {o : Oper} (h : Fo cx n o) : ∀ y ∈ opsOf o.op, fineX y = true := by
 have h := h.1
 simp only [fineO, Bool.and_eq_true] at h
 exact List.all_eq_true.1 h.1.2
theorem allP_mem : ∀ (ps : List Prop), allP ps → ∀ p ∈ ps, p
 | p :: ps, h, q, hq => by
   cases List.mem_cons.1 hq with
   | inl e => rw [e]; exact h.1
   | inr e => exact allP_mem ps h.2 q e

/-- What the guard's slot says. -/
theorem guard_wanted (h : RepF cx σ N s m n a w) {ops : Array Oper} {j : Nat} {b : Bool} (hok : guardOk ops.toList s j) : (yielded ops a.tmps j == some b) = guardC ops.toList s j b := by
 unfold guardOk at hok
 unfold guardC yielded
 have e : ops.toList[j]? = ops[j]? := by simp
 rw [e] at hok ⊢
 cases hd : (ops[j]?).bind (·.dst) with
 | none => rw [hd] at hok; exact hok.elim
 | some d =>
   rw [hd] at hok
   simp only [Option.bind_some] at hok ⊢
   have hs := h.ss d
   split at hok
   · rename_i q hq
     rw [hq] at hs
     try simp only [hq]
     have := of_bool hs
     have ht : a.tmps[d]? = some (.bool q) := by
      rw [Array.getD_eq_getD_getElem?] at this
      cases hg : a.tmps[d]? with
      | none => rw [hg] at this; simp [undef] at this
      | some v => rw [hg] at this; simpa using this
     rw [ht]
     cases q <;> cases b <;> rfl
   · rename_i c q hq
     rw [hq] at hs
     try simp only [hq]
     unfold repA at hs
     cases c with
     | true =>
       have := of_bool (hs.1 rfl)
       have ht : a.tmps[d]? = some (.bool q) := by
        rw [Array.getD_eq_getD_getElem?] at this
        cases hg : a.tmps[d]? with
        | none => rw [hg] at this; simp [undef] at this
        | some v => rw [hg] at this; simpa using this
       rw [ht]
       cases q <;> cases b <;> rfl
     | false =>
       have := hs.2 rfl
       rw [Array.getD_eq_getD_getElem?] at this
       cases hg : a.tmps[d]? with
       | none => simp
       | some v =>
         rw [hg] at this
         simp at this
         subst this
         simp [undef]
   · exact hok.elim

/-- An id is let go. -/
theorem RepM.drop (h : RepM cx σ N m w) (i : Nat) : RepM cx σ N (updM m [(i, .dead)]) w ∧ Rx.Keeps (rx cx σ N m w) (rx cx σ N (updM m [(i, .dead)]) w) := by
 have hu : ∀ id, updM m [(i, .dead)] id = if i = id then .dead else m id := fun id => rfl
 refine h.step (fun id => id = i) (fun _ h => h) (fun id hn => ?_) (fun id hn => ⟨by rw [hu, if_neg (fun e => hn e.symm)], rfl⟩) (fun _ _ => rfl) (fun _ _ _ => rfl) ⟨Nat.le_refl _, Nat.le_refl _⟩ rfl rfl rfl
  (fun id b hi ho hb => ?_) (fun id id' b hi hi' ho ho' hb hb' => ?_) (fun id _ => h.hone id) (fun hk id hi => ?_)
 · rw [hu]; split
   · rfl
   · exact h.fresh id hn
 · subst hi; rw [hu, if_pos rfl] at ho; cases ho
 · rw [hi, hi']
 · subst hi; rw [hu, if_pos rfl]; trivial

theorem dem_pre {fr : Nat} {E : Eff} : (dem fr E).pre = E.pre := by
 unfold dem
 split
 · split <;> rfl
 · rfl

theorem dem_res {fr : Nat} {E : Eff} {v : Value} {w' : World} (hd : m fr = .dead) (h : Res cx σ N m w fr E v w') : Res cx σ N m w fr (dem fr E) v w' := by
 unfold dem
 split
 · rename_i k e t xs k' hu hr
   split
   · rename_i hk
     obtain ⟨rfl, rfl⟩ := hk
     obtain ⟨σ', h1, hkp, h2, h3⟩ := h
     rw [hu] at h1 hkp h2
     rw [hr] at h2
     obtain ⟨g1, g2⟩ := h1.settles [k']
     obtain ⟨g3, g4⟩ := g1.drop k'
     have hrow : updM m [(k', .row e t xs)] k' = .row e t xs := by simp [updM]
     have hset : updM (updM m [(k', .row e t xs)]) ([k'].map (settle (updM m [(k', .row e t xs)]))) k' = .settled t xs := by
      simp [updM, settle]
     have hb := g1.blk k'
     rw [hset] at hb
     have he : updM (updM (updM m [(k', .row e t xs)]) ([k'].map (settle (updM m [(k', .row e t xs)])))) [(k', .dead)] = m := by
      funext i
      by_cases q : k' = i
      · subst q; simp [updM, hd]
      · simp [updM, settle, q]
     rw [he] at g3 g4
     have hsub : ∀ b, Owned cx σ' m b → Owned cx σ' (updM m [(k', .row e t xs)]) b := by
      rintro b (hf | ⟨i, ho, hbi⟩)
      · exact .inl hf
      · refine .inr ⟨i, ?_, hbi⟩
        have hne : k' ≠ i := fun q => by subst q; rw [hd] at ho; cases ho
        have : updM m [(k', .row e t xs)] i = m i := by simp [updM, hne]
        rw [this]; exact ho
     have hk2 : Rx.Keeps (rx cx σ N m w) (rx cx σ' (Nx N k') m w') := ⟨⟨fun b hb hn => ⟨fun q => (hkp.k.blk b hb hn).1 (hsub b q), (hkp.k.blk b hb hn).2⟩⟩, hkp.σ, hkp.N⟩
     refine ⟨σ', g3, hk2, ?_, h3⟩
     have hv : v = σ' k' := by unfold repA repC at h2; exact h2.2
     subst hv
     refine repA_keep g4 (.one (.sl t xs false)) _ ?_
     unfold repA repC
     exact ⟨hb, fun q => by cases q⟩
   · exact h
 · exact h

/-- ONE OPERATION. -/
theorem step_sound (hW : WideF F) (h : RepF cx σ N s m n a w) {fr : Nat} (hfr : ∀ id, fr ≤ id → id < fr + 32 → N id) (ht : TabOK P T) (hG : EnvD cx.D cx.gv P G) {ops : Array Oper} {i : Nat} {o : Oper} (hi : ops[i]? = some o) (hf : Fo cx n o)
 (hp : (stepE T G ops.toList o s m fr).pre) {K : Act → World → Prop} {Q : Exit → Act → World → Prop}
 (hK : ∀ a' w' σ', RepF cx σ' (Nx N fr) (updS s o.dst (stepE T G ops.toList o s m fr).r) (updM m (stepE T G ops.toList o s m fr).u) n a' w' → Rx.Keeps (rx cx σ N m w) (rx cx σ' (Nx N fr) (updM m (stepE T G ops.toList o s m fr).u) w') → (stepE T G ops.toList o s m fr).asm → K a' w') :
 wpOpIn F nn P ops Q i K a w := by
 unfold wpOpIn
 simp only [hi]
 cases hg : o.guard with
 | none =>
   have hw : Region.wanted o (yielded ops a.tmps) = true := by simp [Region.wanted, hg]
   rw [if_pos hw]
   simp only [stepE, hg] at hp hK
   refine (opEff_sound (ρ := a.eval) (av := opd s) h.mm hfr ht hG (fun y hy => opd_rep h (fineO_ops hf y hy)) (fun v => rfl) hp).wpIn hW (fineO_def hf) (fun v w' hres => ?_)
   obtain ⟨σ', h1, k, hr, ha⟩ := hres
   exact hK _ _ σ' (h.put h1 k hr (fineO_dst hf)) k ha
 | some jb =>
   obtain ⟨j, b⟩ := jb
   simp only [stepE, hg] at hp hK
   obtain ⟨hok, hst, hpre, hu⟩ := hp
   have hw : Region.wanted o (yielded ops a.tmps) = guardC ops.toList s j b := by
    simp only [Region.wanted, hg]
    exact guard_wanted h hok
   rw [hw]
   cases hc : guardC ops.toList s j b with
   | true =>
     rw [hc] at hst hpre hK hu
     rw [if_pos rfl]
     cases hpk : isPk o.op with
     | true =>
       rw [hpk] at hpre hK hu
       refine (opEff_sound (ρ := a.eval) (av := opd s) h.mm hfr ht hG (fun y hy => opd_rep h (fineO_ops hf y hy)) (fun v => rfl) (dem_pre ▸ hpre rfl)).wpIn hW (fineO_def hf) (fun v w' hres => ?_)
       obtain ⟨σ', h1, k, hr, ha⟩ := dem_res (h.mm.fresh fr (hfr fr (Nat.le_refl fr) (by omega))) hres
       have hu2 := noop_upd (hu rfl)
       simp only [gAvs] at hu2
       rw [hu2] at h1 k hr
       refine hK _ _ σ' (h.put h1 k ?_ (fineO_dst hf)) k (fun _ => ha)
       unfold repA
       exact ⟨fun _ => hr, (fun e => by cases e)⟩
     | false =>
       rw [hpk] at hst hpre hK hu
       simp only [gAvs, gPre] at hst hpre hK hu
       have hmap : ((opsOf o.op).map (opd s)).map stripV = (opsOf o.op).map (fun y => stripV (opd s y)) := by simp
       rw [hmap] at hpre hK hu
       refine (opEff_sound (ρ := a.eval) (av := fun y => stripV (opd s y)) h.mm hfr ht hG (fun y hy => ?_) (fun v => rfl) (dem_pre ▸ hpre trivial)).wpIn hW (fineO_def hf) (fun v w' hres => ?_)
       · have hr := opd_rep h (fineO_ops hf y hy)
         cases hav : opd s y with
         | ifd c' v' =>
           rw [hav] at hr
           have := allP_mem _ hst (stripP true (opd s y)) (by
            rw [List.map_map]
            exact List.mem_map.2 ⟨y, hy, rfl⟩)
           rw [hav] at this
           unfold repA at hr
           exact hr.1 (this rfl)
         | one c => rw [hav] at hr; exact hr
         | agg c => rw [hav] at hr; exact hr
         | tup c => rw [hav] at hr; exact hr
       · obtain ⟨σ', h1, k, hr, ha⟩ := dem_res (h.mm.fresh fr (hfr fr (Nat.le_refl fr) (by omega))) hres
         rw [noop_upd (hu trivial)] at h1 k hr
         refine hK _ _ σ' (h.put h1 k ?_ (fineO_dst hf)) k (fun _ => ha)
         unfold repA
         exact ⟨fun _ => hr, (fun e => by cases e)⟩
   | false =>
     rw [hc] at hK
     rw [if_neg (by simp)]
     obtain ⟨h1, k⟩ := h.mm.weaken (N' := Nx N fr) (fun _ k => k.1)
     refine ⟨fun f _ => hW.fn f, ?_⟩
     refine hK _ _ σ (h.put h1 k ?_ (fineO_dst hf)) k (fun e => by cases e)
     unfold repA
     exact ⟨(fun e => by cases e), fun _ => rfl⟩

theorem RepF.weaken (h : RepF cx σ N s m n a w) {N' : Nat → Prop} (hN : ∀ id, N' id → N id) : RepF cx σ N' s m n a w := by
 obtain ⟨h1, k⟩ := h.mm.weaken hN
 exact ⟨h1, fun i => repA_keep k _ _ (h.ss i), h.df, h.sz, h.fx⟩

/-- Ids from a number on are free. -/
def From (fr : Nat) : Nat → Prop := fun id => fr ≤ id

/-- ONE OPERATION that comes to one of several effects. -/
theorem alt_sound (hW : WideF F) (h : RepF cx σ N s m n a w) {fr : Nat} (hfr : ∀ id, fr ≤ id → id < fr + 32 → N id) (ht : TabOK P T) (hG : EnvD cx.D cx.gv P G) {ops : Array Oper} {i : Nat} {o : Oper} (hi : ops[i]? = some o) (hf : Fo cx n o)
 {C : Chc} (hC : altO T G ops.toList o s m fr = some C) (hp : C.pre) {K : Act → World → Prop} {Q : Exit → Act → World → Prop}
 (hK : ∀ a' w' σ' k, RepF cx σ' (Nx N fr) (updS s o.dst (C.r k)) (updM m (C.u k)) n a' w' → C.asm k → K a' w') :
 wpOpIn F nn P ops Q i K a w := by
 unfold wpOpIn
 simp only [hi]
 unfold altO at hC
 cases hg : o.guard with
 | some jb =>
   obtain ⟨j, b⟩ := jb
   rw [hg] at hC
   simp only at hC
   split at hC
   case isFalse => cases hC
   cases hC
   obtain ⟨hok, hst, hpre⟩ := hp
   have hw : Region.wanted o (yielded ops a.tmps) = guardC ops.toList s j b := by
    simp only [Region.wanted, hg]
    exact guard_wanted h hok
   rw [hw]
   cases hc : guardC ops.toList s j b with
   | true =>
     rw [hc] at hst hpre
     rw [if_pos rfl]
     have fin : ∀ {E : Eff} {v : Value} {w' : World}, Res cx σ N m w fr E v w' → E = opEff T G o (gAvs (isPk o.op) ((opsOf o.op).map (opd s))) m fr → K (a.put o.dst v) w' := by
      intro E v w' ⟨σ', h1, k, hr, ha⟩ hE
      subst hE
      refine hK _ _ σ' Two.y (h.put h1 k ?_ (fineO_dst hf)) ⟨hc, ha⟩
      unfold repA
      exact ⟨fun _ => hr, (fun e => by cases e)⟩
     cases hpk : isPk o.op with
     | true =>
       rw [hpk] at hpre fin
       exact (opEff_sound (ρ := a.eval) (av := opd s) h.mm hfr ht hG (fun y hy => opd_rep h (fineO_ops hf y hy)) (fun v => rfl) (hpre rfl)).wpIn hW (fineO_def hf) (fun v w' hres => fin hres rfl)
     | false =>
       rw [hpk] at hst hpre fin
       simp only [gAvs, gPre] at hst hpre fin
       have hmap : ((opsOf o.op).map (opd s)).map stripV = (opsOf o.op).map (fun y => stripV (opd s y)) := by simp
       rw [hmap] at hpre fin
       refine (opEff_sound (ρ := a.eval) (av := fun y => stripV (opd s y)) h.mm hfr ht hG (fun y hy => ?_) (fun v => rfl) (hpre trivial)).wpIn hW (fineO_def hf) (fun v w' hres => fin hres rfl)
       have hr := opd_rep h (fineO_ops hf y hy)
       cases hav : opd s y with
       | ifd c' v' =>
         rw [hav] at hr
         have := allP_mem _ hst (stripP true (opd s y)) (by
          rw [List.map_map]
          exact List.mem_map.2 ⟨y, hy, rfl⟩)
         rw [hav] at this
         unfold repA at hr
         exact hr.1 (this rfl)
       | one c => rw [hav] at hr; exact hr
       | agg c => rw [hav] at hr; exact hr
       | tup c => rw [hav] at hr; exact hr
   | false =>
     rw [if_neg (by simp)]
     obtain ⟨h1, k⟩ := h.mm.weaken (N' := Nx N fr) (fun _ k => k.1)
     refine ⟨fun f _ => hW.fn f, ?_⟩
     refine hK _ _ σ Two.n (h.put h1 k ?_ (fineO_dst hf)) hc
     show repA _ (.ifd false _) _
     unfold repA
     exact ⟨(fun e => by cases e), fun _ => rfl⟩
 | none =>
   rw [hg] at hC
   have hw : Region.wanted o (yielded ops a.tmps) = true := by simp [Region.wanted, hg]
   rw [if_pos hw]
   simp only at hC
   split at hC
   · rename_i hsl
     refine (s_slice_chk (ρ := a.eval) (av := opd s) h.mm (hfr fr (by omega) (by omega)) hsl ht (fun y hy => opd_rep h (fineO_ops hf y hy)) hC hp).wpIn hW (fineO_def hf) (fun v w' hres => ?_)
     obtain ⟨k, σ', h1, kk, hr, ha⟩ := hres
     exact hK _ _ σ' k (h.put h1 kk hr (fineO_dst hf)) ha
   · have hq : queO T o.op ((opsOf o.op).map (opd s)) m fr = some C ∨ altE T G o.op ((opsOf o.op).map (opd s)) m fr = some C := by
      unfold queX at hC
      split at hC
      · rename_i c ho
        split at hC
        · split at hC
          · exact .inl (by rw [← ho] at hC; exact hC)
          · cases hC
        · exact .inr (by rw [← ho] at hC; exact hC)
      · exact .inr hC
     rcases hq with hC | hC
     · refine (s_que (ρ := a.eval) (av := opd s) h.mm hfr ht (fun y hy => opd_rep h (fineO_ops hf y hy)) hC hp).wpIn hW (fineO_def hf) (fun v w' hres => ?_)
       obtain ⟨k, σ', h1, kk, hr, ha⟩ := hres
       exact hK _ _ σ' k (h.put h1 kk hr (fineO_dst hf)) ha
     · refine (altE_sound (ρ := a.eval) (av := opd s) h.mm hfr ht hG (fun y hy => opd_rep h (fineO_ops hf y hy)) (fun v => rfl) hC hp).wpIn hW (fineO_def hf) (fun v w' hres => ?_)
       obtain ⟨k, σ', h1, kk, hr, ha⟩ := hres
       exact hK _ _ σ' k (h.put h1 kk hr (fineO_dst hf)) ha

theorem evOps_sound (hW : WideF F) (ht : TabOK P T) (hG : EnvD cx.D cx.gv P G) {ops : Array Oper} (hf : ∀ o ∈ ops.toList, Fo cx n o) {base : Nat} {K : Slots → Heap → Prop} {Q : Exit → Act → World → Prop}
 (hK : ∀ s m a w σ, K s m → RepF cx σ (From (base + 32 * ops.size)) (sget s) (mem m) n a w → Q .normal a w) :
 ∀ (os : List Oper) (i : Nat) (s : Slots) (m : Heap) (a : Act) (w : World) (σ : Nat → Value), (∀ j, os[j]? = ops[i + j]?) → i + os.length = ops.size → evOps T G ops.toList base i os s m K → RepF cx σ (From (base + 32 * i)) (sget s) (mem m) n a w →
   wpOpsIn F nn P ops Q (List.range' i os.length) a w
 | [], i, s, m, a, w, σ, _, hl, hev, h => by
   simp only [List.length_nil, List.range'_zero, wpOpsIn]
   simp only [List.length_nil, Nat.add_zero] at hl
   exact hK s m a w σ hev (by rw [← hl]; exact h)
 | o :: os, i, s, m, a, w, σ, hos, hl, hev, h => by
   have h0 : ops[i]? = some o := by simpa using (hos 0).symm
   simp only [List.length_cons, List.range'_succ]
   rw [wpOpsIn_cons]
   have hmem := hf o (by have := Array.mem_of_getElem? h0; simpa using this)
   have next : ∀ a' w' σ' dst r u, RepF cx σ' (Nx (From (base + 32 * i)) (base + 32 * i)) (updS (sget s) dst r) (updM (mem m) u) n a' w' → evOps T G ops.toList base (i + 1) os (putS s dst r) (setMany m u) K → wpOpsIn F nn P ops Q (List.range' (i + 1) os.length) a' w' := by
    intro a' w' σ' dst r u h' hev'
    have h'' := h'.weaken (N' := From (base + 32 * (i + 1))) (fun id hid => ⟨by unfold From at *; omega, by unfold From at *; omega⟩)
    rw [← sget_put, ← mem_setMany] at h''
    exact evOps_sound hW ht hG hf hK os (i + 1) _ _ a' w' σ' (fun j => by have := hos (j + 1); simpa [Nat.add_assoc, Nat.add_comm 1 j] using this) (by simp at hl; omega) hev' h''
   simp only [evOps] at hev
   split at hev
   · rename_i C hC
     exact alt_sound hW h (fun id h1 h2 => h1) ht hG h0 hmem hC hev.1 (fun a' w' σ' k h' ha => next a' w' σ' _ _ _ h' (hev.2 k ha))
   · exact step_sound hW h (fun id h1 h2 => h1) ht hG h0 hmem hev.1 (fun a' w' σ' h' k ha => next a' w' σ' _ _ _ h' (hev.2 ha))

theorem region_sound (hW : WideF F) (ht : TabOK P T) (hG : EnvD cx.D cx.gv P G) {ops : Array Oper} (hf : ∀ o ∈ ops.toList, Fo cx n o) {base : Nat} {K : Slots → Heap → Prop} {Q : Exit → Act → World → Prop}
 (hK : ∀ s m a w σ, K s m → RepF cx σ (From (base + 32 * ops.size)) (sget s) (mem m) n a w → Q .normal a w) {s : Slots} {m : Heap} {a : Act} {w : World} {σ : Nat → Value}
 (hev : evOps T G ops.toList base 0 ops.toList s m K) (h : RepF cx σ (From base) (sget s) (mem m) n a w) {id : Nat} : (Code.region id ops false).wpIn F nn P Q a w := by
 refine wpIn_region ?_
 have := evOps_sound (nn := nn) hW ht hG hf hK ops.toList 0 s m a w σ (fun j => by simp) (by simp) hev h
 rwa [Array.length_toList, ← List.range_eq_range'] at this

end
end Go.Ev
