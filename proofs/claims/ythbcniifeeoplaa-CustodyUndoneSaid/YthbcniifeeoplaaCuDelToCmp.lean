/- slices.Delete of one seal, walked. -/
import Derived.Test.YthbcniifeeoplaaCuAToIns
import Derived.Test.YthbcniifeeoplaaEvFun4ToBox
set_option linter.unusedVariables false
set_option linter.unusedSimpArgs false
namespace Go.Proofs.Ythbcniifeeoplaa
open Go.RowKit Go.Lib

theorem step_app {P : Program} {ops : Array Oper} {o : Oper} {a : Act} {w : World} {K : Act → World → Prop} {Q : Exit → Act → World → Prop} {E : Prop}
 (hg : o.guard = none) (x y : Operand) (t t' : TypeId) (hop : o.op = .call { callee := .builtin .append, args := #[x, y], argTypes := #[t, t'] })
 (v u : Value) (hd : a.eval x = v) (hx : a.eval y = u) {v' : Value} {w' : World} (hr : (Builtin.append_ #[t, t'] o.type #[v, u]).run P w = .ok v' w') (hK : K (a.put o.dst v') w') :
 if Region.wanted o (yielded ops a.tmps) = true then Oper.wp P o a w K Q else E := by
 rw [if_pos (by simp [Region.wanted, hg])]
 unfold Oper.wp
 simp [execOp, hop, resolve, invoke, builtin, hd, hx, hr, Result.andThen]
 exact hK
theorem wpl_clear {P : Program} (w : World) {ops : Array Oper} {rest : List Oper} {o : Oper} {a : Act} {Q : Exit → Act → World → Prop} (hgd : o.guard = none) (x : Operand) (t : TypeId)
 (ho : o.op = .call { callee := .builtin .clear, args := #[x], argTypes := #[t] }) (v : Value) (hd : a.eval x = v) {v' : Value} {w' : World}
 (hr : (Builtin.clear_ #[t] o.type #[v]).run P w = .ok v' w') (h : wpList P ops Q rest (a.put o.dst v') w') : wpList P ops Q (o :: rest) a w :=
 wpList_plain hgd fun K hK => by
  unfold Oper.wp execOp
  simp only [ho, resolve, invoke, builtin, Sem.run_bind, Sem.run_pure, Result.andThen_ok, List.map_toArray, List.map_cons, List.map_nil, hd, hr]
  exact hK _ _ h
set_option maxHeartbeats 4000000 in
set_option maxRecDepth 100000 in
theorem del_one (g n cap i : Nat) (cur : Array Value) (flat : List Value) (w : World) (hi : i < n) (hnc : n ≤ cap) (hcm : cap ≤ maxLen)
 (hg : w.heap[g]? = some (.cells cur 65 (0, 0))) (hcs : cur.size = cap * 2) (hfl : cur.toList.take (n * 2) = flat) (h1 : ∀ u ∈ flat, u.oneCell' = true) :
 Calls Try.prog 34 #[.slice (some ⟨g, 0, none⟩) n cap, .int .i64 i, .int .i64 ((i : Int) + 1)] w fun e w' =>
  e = .returned (.slice (some ⟨g, 0, none⟩) (n - 1) cap) ∧ ∃ cur' : Array Value, w' = w.drew.setRow g cur' ∧ cur'.size = cap * 2 ∧ cur'.toList.take ((n - 1) * 2) = flat.take (i * 2) ++ flat.drop ((i + 1) * 2) := by
 have u36 := run_underlying Try.underlying36
 have u3 := run_underlying Try.underlying3
 have hlen : flat.length = n * 2 := by rw [← hfl, List.length_take, Array.length_toList]; omega
 obtain ⟨ii, hii, his, hib, hiz⟩ := info65
 have hcf : ∀ j u, flat[j]? = some u → w.cell? ⟨g, j, none⟩ = some u := fun j u hu => by
  have hj := (List.getElem?_eq_some_iff.1 hu).1
  rw [← hfl, List.getElem?_take_of_lt (by omega)] at hu
  simp only [World.cell?, hg]; simpa using hu
 have hdl : (flat.drop ((i + 1) * 2)).length = (n - (i + 1)) * 2 := by rw [List.length_drop, hlen, Nat.sub_mul]
 obtain ⟨A, hA, hAc⟩ : ∃ A : Addr, (if cap = i + 1 then some (⟨g, 0, none⟩ : Addr) else some ⟨g, (i + 1) * 2, none⟩) = some A ∧ (∀ j u, (flat.drop ((i + 1) * 2))[j]? = some u → w.cell? (A.add j) = some u) := by
  by_cases hc : cap = i + 1
  · refine ⟨_, if_pos hc, fun j u hu => ?_⟩
    have := (List.getElem?_eq_some_iff.1 hu).1
    rw [hdl] at this; omega
  · refine ⟨_, if_neg hc, fun j u hu => ?_⟩
    rw [List.getElem?_drop] at hu
    rw [Addr.add_lit]
    exact hcf _ u hu
 let cur1 : Array Value := (cur.toList.take (i * 2) ++ flat.drop ((i + 1) * 2) ++ cur.toList.drop (i * 2 + (flat.drop ((i + 1) * 2)).length)).toArray
 have hr : ∀ ty, (Builtin.append_ #[36, 36] ty #[.slice (some ⟨g, 0, none⟩) i cap, .slice (some A) (n - (i + 1)) (cap - (i + 1))]).run Try.prog w.drew = .ok (.slice (some ⟨g, 0, none⟩) (i + (n - (i + 1))) cap) (w.drew.setRow g cur1) := fun ty => by
  have := run_append_room w.drew 36 ty 65 ii Try.underlying36 hii g i cap cur hg A (n - (i + 1)) (cap - (i + 1)) (flat.drop ((i + 1) * 2)) (by rw [hdl, his]) hAc (fun v hv => h1 v (List.mem_of_mem_drop hv)) (by omega) (by rw [his, hdl, hcs]; omega)
  rw [his] at this
  exact this
 have hs1 : cur1.size = cap * 2 := by
  simp only [cur1, List.size_toArray, List.length_append, List.length_take, List.length_drop, Array.length_toList, hcs, hlen]; omega
 have hg1 : (w.drew.setRow g cur1).heap[g]? = some (.cells cur1 65 (0, 0)) := setRow_heap w.drew g cur cur1 65 (0, 0) hg
 have hin : i + (n - (i + 1)) = n - 1 := by omega
 rw [hin] at hr
 let cur2 : Array Value := (cur1.toList.take ((n - 1) * 2) ++ [Value.int .i64 0, Value.int .i64 0] ++ cur1.toList.drop ((n - 1) * 2 + 2)).toArray
 have hcl : ∀ ty dc, (Builtin.clear_ #[36] ty #[.slice (some ⟨g, (n - 1) * 2, none⟩) 1 dc]).run Try.prog (w.drew.setRow g cur1) = .ok (.tuple #[]) ((w.drew.setRow g cur1).setRow g cur2) := fun ty dc => by
  have hst := run_storeCells_at Try.prog g ((n - 1) * 2) 65 [Value.int .i64 0, Value.int .i64 0] 0 cur1 (w.drew.setRow g cur1) hg1 (by simp; omega) (by intro x hx; simp at hx; rw [hx]; rfl)
  simp only [Nat.add_zero] at hst
  have hzv : (zeroValue 65).run Try.prog (w.drew.setRow g cur1) = .ok (.agg #[.int .i64 0, .int .i64 0]) (w.drew.setRow g cur1) := by simp [zeroValue, typeInfo, hii, hiz]
  have hz2 : (Builtin.zeroCells #[Value.int .i64 0, Value.int .i64 0] 1).toList = [.int .i64 0, .int .i64 0] := by
   simp [Builtin.zeroCells, List.range_succ]
  simp [Builtin.clear_, run_underlying Try.underlying36, hzv, hz2, hst, cur2, Value.cells]
 have hfin : cur2.size = cap * 2 ∧ cur2.toList.take ((n - 1) * 2) = flat.take (i * 2) ++ flat.drop ((i + 1) * 2) := by
  refine ⟨by simp only [cur2, List.size_toArray, List.length_append, List.length_take, List.length_drop, Array.length_toList, hs1, List.length_cons, List.length_nil]; omega, ?_⟩
  have e1 : cur.toList.take (i * 2) = flat.take (i * 2) := by rw [← hfl, List.take_take, Nat.min_eq_left (by omega)]
  have e2 : cur1.toList.take ((n - 1) * 2) = flat.take (i * 2) ++ flat.drop ((i + 1) * 2) := by
   simp only [cur1, List.toList_toArray, e1]
   refine (List.take_append_of_le_length ?_).trans (List.take_of_length_le ?_) <;> (simp only [List.length_append, List.length_take, hdl, hlen]; omega)
  simp only [cur2, List.toList_toArray, List.append_assoc]
  rw [List.take_append_of_le_length (by rw [List.length_take, Array.length_toList]; omega), List.take_take, Nat.min_self, e2]
 have hw1 : IntKind.i64.wrap ((i : Int) + 1) = (i : Int) + 1 := by rw [IntKind.wrap_i64]; simp only [maxLen] at hcm; omega
 have hz1 : ¬ ((i : Int) = (i : Int) + 1) := by omega
 have hb1 : (0 : Int) ≤ (i : Int) + 1 := by omega
 have hb2 : (i : Int) + 1 ≤ (n : Int) := by omega
 have hb3 : (i : Int) ≤ (i : Int) + 1 := by omega
 have hb4 : ¬ (cap = n - 1) := by omega
 have hb5 : n - 1 ≤ n := by omega
 have hb6 : n - (n - 1) = 1 := by omega
 have hb7 : i ≤ cap := by omega
 have hb8 : i + 1 ≤ n := by omega
 have htn : ((i : Int) + 1).toNat = i + 1 := by omega
 have hcm' : cap ≤ 9223372036854775807 := by simp only [maxLen] at hcm; omega
 clear_value cur1 cur2
 have mixed : Try.prog.follows .mixedOrders = true := by kernel_rfl
 go_enter Try.func34, Try.ntmps34
 go_wp2_with fail
 go_region_law_o (refine step_app rfl _ _ 36 36 rfl _ _ (by simp [Act.eval, Act.put]) (by simp [Act.eval, Act.put, hA]) (hr _) ?_)
 go_wp2_with (at_builtin; refine wpl_clear _ rfl _ 36 rfl _ rfl (hcl _ _) ?_)
 go_ret
 exact ⟨rfl, cur2, by rw [setRow_setRow], hfin.1, hfin.2⟩
end Go.Proofs.Ythbcniifeeoplaa

/- slices.Insert and slices.Delete at seals: contracts. -/
set_option linter.unusedVariables false
set_option linter.unusedSimpArgs false
namespace Go.Proofs.Ythbcniifeeoplaa
open Go.Ev

abbrev SE : Ty := .pair (.int .i64) (.int .i64)
def insL {α : Type} (l : List α) (i : Nat) (ys : List α) : List α := l.take i ++ ys ++ l.drop i
def delL {α : Type} (l : List α) (i : Nat) : List α := l.take i ++ l.drop (i + 1)
theorem roAll_take {α : Type} {r : α → List Value → Prop} {s : Nat} (hs : ∀ x c, r x c → c.length = s) {xs : List α} {vs : List Value} (h : roAll r xs vs) {i : Nat} (hi : i ≤ xs.length) : roAll r (xs.take i) (vs.take (i * s)) ∧ roAll r (xs.drop i) (vs.drop (i * s)) := by
 have h2 : roAll r (xs.take i ++ xs.drop i) vs := by rw [List.take_append_drop]; exact h
 obtain ⟨a, b, rfl, ha, hb⟩ := roAll_split _ _ vs h2
 have hl := roAll_len hs _ _ ha
 rw [List.length_take, Nat.min_eq_left hi] at hl
 rw [List.take_left' hl, List.drop_left' hl]
 exact ⟨ha, hb⟩
theorem res_same {cx : Cx} {σ : Nat → Value} {N : Nat → Prop} {m : Mem} {w : World} {fr : Nat} {E E' : Eff} {v : Value} {w' : World} (h : Res cx σ N m w fr E v w') (hu : updM m E'.u = updM m E.u) (hr : E'.r = E.r) (ha : E'.asm) : Res cx σ N m w fr E' v w' := by
 obtain ⟨σ', h1, h2, h3, _⟩ := h
 exact ⟨σ', by rw [hu]; exact h1, by rw [hu]; exact h2, by rw [hu, hr]; exact h3, ha⟩

def conS32 : Con := { ps := [.oc 65 SE, .d false (.int .i64), .o 65 SE], rs := [.o 65 SE], pre := fun (x : List (Int × Int) × Int × List (Int × Int) × Unit) => 0 ≤ x.2.1 ∧ x.2.1 ≤ x.1.length ∧ x.2.2.1.length = 1 ∧ x.1.length ≤ 1000000, out := fun (x : List (Int × Int) × Int × List (Int × Int) × Unit) => (insL x.1 x.2.1.toNat x.2.2.1, ()), nw := id }
set_option maxHeartbeats 1000000 in
theorem cS32 : CtrOk Try.prog 32 conS32.ctr := by
 intro D gv hDS cx hcd σ N m w fr avs vs h hfr hreps hp
 unfold Con.ctr Con.effO at hp ⊢
 cases hrd : rds m conS32.ps avs with
 | none => rw [hrd] at hp; exact hp.elim
 | some x =>
   rw [hrd] at hp
   simp only at hp ⊢
   split at hp
   case isFalse => exact hp.elim
   rename_i hid
   rw [if_pos hid]
   obtain ⟨(xs : List (Int × Int)), (i : Int), (ys : List (Int × Int)), (u : Unit)⟩ := x
   cases u
   match avs, hrd, hreps, hid with
   | [], hrd, _, _ => simp [conS32, rds] at hrd
   | [_], hrd, _, _ => simp [conS32, rds, implP] at hrd
   | [_, _], hrd, _, _ => simp [conS32, rds, implP] at hrd
   | _ :: _ :: _ :: _ :: _, hrd, _, _ => simp [conS32, rds, implP] at hrd
   | [v1, v2, v3], hrd, hreps, hid =>
     simp only [conS32, rds] at hrd
     obtain ⟨h1, r1⟩ := implP_some hrd
     obtain ⟨h2, r2⟩ := implP_some r1
     obtain ⟨h3, _⟩ := implP_some r2
     obtain ⟨id, rfl, k1⟩ := rd_oc h1
     obtain ⟨id2, rfl, k3⟩ := rd_o h3
     have hm := rdRow_some k1
     have hm2 := rdRow_some k3
     clear h1 h3 r1 r2 k1 k3 hrd
     have hne : id ≠ id2 := by
      have := hid.1
      simp only [conS32, pids, pid, List.append_nil, List.nil_append, List.cons_append] at this
      simpa using this
     have e2 : v2 = .one (.int .i64 i) := by
      cases v2 with
      | one c => simp only [rd] at h2; have := implI_some h2; simp only [List.cons.injEq, and_true] at this; rw [this]
      | _ => simp [rd] at h2
     subst e2
     unfold repAs at hreps
     obtain ⟨u1, s1, rfl, q1, hreps⟩ := hreps
     unfold repAs at hreps
     obtain ⟨u2, s2, rfl, q2, hreps⟩ := hreps
     unfold repAs at hreps
     obtain ⟨u3, s3, rfl, q3, hreps⟩ := hreps
     unfold repAs at hreps
     subst hreps
     unfold repA repC at q1 q2 q3
     obtain ⟨hn1, rfl⟩ := q1
     obtain ⟨rfl, hir⟩ := q2
     obtain ⟨hn2, rfl⟩ := q3
     simp only [rx] at hn1 hn2 ⊢
     obtain ⟨p0, p1, p2, p3⟩ : 0 ≤ i ∧ i ≤ xs.length ∧ ys.length = 1 ∧ xs.length ≤ 1000000 := hp
     have hN : N fr := hfr fr (by omega) (by omega)
     have nf1 : id ≠ fr := fun k => hn1 (k ▸ hN)
     have nf2 : id2 ≠ fr := fun k => hn2 (k ▸ hN)
     -- what the two rows hold
     have hb1 := h.blk id
     rw [hm] at hb1
     obtain ⟨n, flat, hnl, b1, b2⟩ := hb1
     have hb2 := h.blk id2
     rw [hm2] at hb2
     obtain ⟨n2, vs2, hnl2, c1, c2⟩ := hb2
     simp only [rx] at b1 b2 c1 c2
     subst hnl; subst hnl2
     have hro : ∀ (x : SE.den) c, ro w (Owned cx σ m) SE x c → c.length = 2 := fun x c hc => ro_len SE x c hc
     have hfl := roAll_len hro _ _ b2
     have hvl := roAll_len hro _ _ c2
     have hfl' : flat.length = xs.length * 2 := hfl
     replace hvl : vs2.length = ys.length * 2 := hvl
     rw [p2] at hvl
     have h1f := roAll_one _ _ b2 (fun x c hc => ro_one SE x c hc)
     have h1v := roAll_one _ _ c2 (fun x c hc => ro_one SE x c hc)
     obtain ⟨i, rfl⟩ : ∃ j : Nat, i = (j : Int) := ⟨i.toNat, by omega⟩
     have hil : i ≤ xs.length := by omega
     have hzs : roAll (ro w (Owned cx σ m) SE) (insL xs i ys) (flat.take (i * 2) ++ vs2 ++ flat.drop (i * 2)) := by
      obtain ⟨t1, t2⟩ := roAll_take hro b2 hil
      exact roAll_append _ _ _ _ (roAll_append _ _ _ _ t1 c2) t2
     have hzl : (insL xs i ys).length = xs.length + 1 := by unfold insL; simp only [List.length_append, List.length_take, List.length_drop, p2]; omega
     have hgoal : ∀ v w', Res cx σ N m w fr ⟨True, .one (.row fr), [(id, .dead), (fr, .row 65 SE (insL xs i ys))], True⟩ v w' →
      ∃ v', Ending.returned v = .returned v' ∧ Res cx σ N m w fr (conS32.eff [.one (.row id), .one (.int .i64 (i : Int)), .one (.row id2)] m fr (xs, (i : Int), ys, ())) v' w' := fun v w' hr => by
      refine ⟨v, rfl, res_same hr ?_ rfl ⟨⟨by show (insL xs i ys).length ≤ _; rw [hzl]; unfold maxLen; omega, fun y hy => ?_⟩, trivial⟩⟩
      · show updM m [(id, .dead), (id2, .row 65 SE ys), (fr, .row 65 SE (insL xs i ys))] = updM m [(id, .dead), (fr, .row 65 SE (insL xs i ys))]
        simp only [updM]
        funext j
        by_cases e1 : fr = j
        · rw [if_pos e1, if_pos e1]
        · rw [if_neg e1, if_neg e1]
          by_cases e2 : id2 = j
          · rw [if_pos e2, if_neg (fun k => hne (k.trans e2.symm)), ← e2, hm2]
          · rw [if_neg e2]
      · obtain ⟨c, hc⟩ := roAll_mem _ _ hzs y hy
        exact ro_wf SE y c hc
     -- the second row's block
     rcases c1.2 with ⟨k, _⟩ | ⟨gv, cv, cuv, hcv, ev, hv, _, _, hcvs, hvt⟩
     · have k : ys.length = 0 := k
       omega
     replace ev : σ id2 = .slice (some ⟨gv, 0, none⟩) ys.length cv := ev
     replace hvt : cuv.toList.take (ys.length * 2) = vs2 := hvt
     rw [p2] at ev hvt
     rw [ev]
     rcases b1.2 with ⟨hx0, a0, ea⟩ | ⟨g, cap, cur, hc0, eg, hg, hnc, hcm, hcs, htk⟩
     · -- no room at all
       have hx : xs = [] := List.eq_nil_of_length_eq_zero hx0
       subst hx
       have hi0 : i = 0 := by simpa using hil
       subst hi0
       rw [ea]
       have hfn : flat = [] := by rw [← List.length_eq_zero_iff, hfl]; rfl
       subst hfn
       refine (ins_end_grow a0 0 0 gv cv cuv [] vs2 w (Nat.le_refl _) (by omega) (by omega) ?_ hv hvt hvl h1v).mono ?_
       · cases a0 with
         | none => exact run_firstCells_none w.drew 2 0 0 0
         | some a => exact run_firstCells_some w.drew 2 0 a 0 0 [] (by simp) (fun j v hj => by simp at hj)
       rintro e' w' ⟨rfl, rfl⟩
       refine hgoal _ _ ?_
       obtain ⟨hk1, hk2⟩ := h.kill id
       have := fresh_row (p := True) (q := True) (fr := fr) (e := 65) (t := SE) (xs := insL [] 0 ys) (cap := grownCap w (0 + 1) 0 65) hk2 hk1 hN (fun id hid _ => hid) (grown_world w (.cells (([] ++ vs2).toArray ++ Builtin.zeroCells #[.int .i64 0, .int .i64 0] (grownCap w (0 + 1) 0 65 - (0 + 1))) 65)) (heap_alloc_new w.drew _)
        (roAll_mono (ro_keep hk2.k SE) _ _ hzs) (by rw [hzl]; exact grownCap_ge w _ _ _) (grownCap_le_maxLen w _ _ _ (by unfold maxLen; omega)) (by
          have := grownCap_ge w (0 + 1) 0 65
          show _ = _ * 2
          rw [Array.size_append, size_zeroCells]; simp only [List.nil_append, List.size_toArray, hvl]; show 2 + _ * 2 = _; omega) (by
          rw [hzl]
          show List.take ((0 + 1) * 2) _ = _
          rw [Array.toList_append]
          show List.take 2 ((([] : List Value) ++ vs2) ++ _) = (([] : List Value) ++ vs2) ++ []
          rw [List.append_nil]
          exact List.take_left' (l₁ := ([] : List Value) ++ vs2) (show vs2.length = 2 from hvl)) trivial (u0 := [(id, .dead)]) rfl
       rw [hzl] at this
       exact this
     · have hgv : gv ≠ g := fun k => hne (h.inj id id2 g (by rw [hm]; rfl) (by rw [hm2]; rfl) (by rw [eg]; exact .inl (blkOf_slice hc0)) (by rw [ev, ← k]; exact .inl (blkOf_slice hcv)))
       rw [eg]
       by_cases hin : i = xs.length
       · subst hin
         have hfe : flat.take (xs.length * 2) ++ vs2 ++ flat.drop (xs.length * 2) = flat ++ vs2 := by
          rw [List.take_of_length_le (by omega), List.drop_of_length_le (by omega), List.append_nil]
         by_cases hroom : xs.length + 1 ≤ cap
         · refine (ins_end_room g xs.length cap gv cv cur cuv flat vs2 w hroom hcm hgv hg hcs htk hv hvt hvl h1v).mono ?_
           rintro e' w' ⟨rfl, cur', rfl, d1, d2⟩
           refine hgoal _ _ ?_
           have := row_move (p := True) (q := True) (fr := fr) (t := SE) (zs := insL xs xs.length ys) h hN hn1 hm eg (fun k hk => setRow_other w g k cur' hk) rfl rfl rfl ⟨by simp, Nat.le_refl _⟩ hc0 (setRow_heap w g cur cur' 65 (0, 0) hg) (by rw [hzl]; exact hroom) hcm d1 hzs (by rw [hzl, hfe]; exact d2) trivial
           rw [hzl] at this
           exact this
         · refine (ins_end_grow (some ⟨g, 0, none⟩) xs.length cap gv cv cuv flat vs2 w hnc (by omega) (by omega) ?_ hv hvt hvl h1v).mono ?_
           · exact run_firstCells_some w.drew 2 xs.length ⟨g, 0, none⟩ xs.length cap flat hfl (fun j v hj => by
              rw [Addr.add_lit, Nat.zero_add]
              exact rowR_cells b1 (g := g) (by rw [eg]; exact blkOf_slice hc0) j v hj)
           rintro e' w' ⟨rfl, rfl⟩
           refine hgoal _ _ ?_
           obtain ⟨hk1, hk2⟩ := h.kill id
           have := fresh_row (p := True) (q := True) (fr := fr) (e := 65) (t := SE) (xs := insL xs xs.length ys) (cap := grownCap w (xs.length + 1) cap 65) hk2 hk1 hN (fun id hid _ => hid) (grown_world w (.cells ((flat ++ vs2).toArray ++ Builtin.zeroCells #[.int .i64 0, .int .i64 0] (grownCap w (xs.length + 1) cap 65 - (xs.length + 1))) 65)) (heap_alloc_new w.drew _)
            (roAll_mono (ro_keep hk2.k SE) _ _ (hfe ▸ hzs)) (by rw [hzl]; exact grownCap_ge w _ _ _) (grownCap_le_maxLen w _ _ _ (by unfold maxLen; omega)) (by
              have := grownCap_ge w (xs.length + 1) cap 65
              show _ = _ * 2
              rw [Array.size_append, size_zeroCells]; simp only [List.size_toArray, List.length_append, hvl, hfl']; show _ + 2 + _ * 2 = _; omega) (by
              rw [hzl]
              simp only [Array.toList_append, List.toList_toArray]
              show List.take ((xs.length + 1) * 2) _ = _
              exact List.take_left' (by simp [hfl', hvl]; omega)) trivial (u0 := [(id, .dead)]) rfl
           rw [hzl] at this
           exact this
       · have hlt : i < xs.length := by omega
         by_cases hroom : xs.length + 1 ≤ cap
         · refine (ins_shift g xs.length cap i gv cv cur cuv flat vs2 w hlt hroom hcm hgv hg hcs htk h1f hv hvt hvl h1v).mono ?_
           rintro e' w' ⟨rfl, cur', rfl, d1, d2⟩
           refine hgoal _ _ ?_
           have := row_move (p := True) (q := True) (fr := fr) (t := SE) (zs := insL xs i ys) (w' := w.drew.setRow g cur') h hN hn1 hm eg (fun k hk => setRow_other w.drew g k cur' hk) rfl rfl rfl ⟨by simp, Nat.le_succ _⟩ hc0 (setRow_heap w.drew g cur cur' 65 (0, 0) hg) (by rw [hzl]; exact hroom) hcm d1 hzs (by rw [hzl]; exact d2) trivial
           rw [hzl] at this
           exact this
         · refine (ins_grow g xs.length cap i gv cv cur cuv flat vs2 w hlt hnc (by omega) (by omega) hg hcs htk h1f hv hvt hvl h1v).mono ?_
           rintro e' w' ⟨G, rfl, g1, g2, g3, g4, g5, g6, g7, g8, cur', d0, d1, d2⟩
           refine hgoal _ _ ?_
           obtain ⟨hk1, hk2⟩ := h.kill id
           have := fresh_row (p := True) (q := True) (fr := fr) (e := 65) (t := SE) (xs := insL xs i ys) (cap := G) (w' := w') hk2 hk1 hN (fun id hid _ => hid) ⟨g3, g4, g5, g6, g7, g8⟩ d0
            (roAll_mono (ro_keep hk2.k SE) _ _ hzs) (by rw [hzl]; exact g1) g2 d1 (by rw [hzl]; exact d2) trivial (u0 := [(id, .dead)]) rfl
           rw [hzl] at this
           exact this

def conS34 : Con := { ps := [.oc 65 SE, .d false (.int .i64), .d false (.int .i64)], rs := [.o 65 SE], pre := fun (x : List (Int × Int) × Int × Int × Unit) => 0 ≤ x.2.1 ∧ x.2.1 < x.1.length ∧ x.2.2.1 = x.2.1 + 1 ∧ x.1.length ≤ 1000000, out := fun (x : List (Int × Int) × Int × Int × Unit) => (delL x.1 x.2.1.toNat, ()), nw := id }
set_option maxHeartbeats 1000000 in
theorem cS34 : CtrOk Try.prog 34 conS34.ctr := by
 intro D gv hDS cx hcd σ N m w fr avs vs h hfr hreps hp
 unfold Con.ctr Con.effO at hp ⊢
 cases hrd : rds m conS34.ps avs with
 | none => rw [hrd] at hp; exact hp.elim
 | some x =>
   rw [hrd] at hp
   simp only at hp ⊢
   split at hp
   case isFalse => exact hp.elim
   rename_i hid
   rw [if_pos hid]
   obtain ⟨(xs : List (Int × Int)), (i : Int), (j : Int), (u : Unit)⟩ := x
   cases u
   match avs, hrd, hreps, hid with
   | [], hrd, _, _ => simp [conS34, rds] at hrd
   | [_], hrd, _, _ => simp [conS34, rds, implP] at hrd
   | [_, _], hrd, _, _ => simp [conS34, rds, implP] at hrd
   | _ :: _ :: _ :: _ :: _, hrd, _, _ => simp [conS34, rds, implP] at hrd
   | [v1, v2, v3], hrd, hreps, hid =>
     simp only [conS34, rds] at hrd
     obtain ⟨h1, r1⟩ := implP_some hrd
     obtain ⟨h2, r2⟩ := implP_some r1
     obtain ⟨h3, _⟩ := implP_some r2
     obtain ⟨id, rfl, k1⟩ := rd_oc h1
     have hm := rdRow_some k1
     have ofi : ∀ (v : AV) (i : Int), rd m (.d false (.int .i64)) v = some i → v = .one (.int .i64 i) := fun v i h2 => by
      cases v with
      | one c => simp only [rd] at h2; have := implI_some h2; simp only [List.cons.injEq, and_true] at this; rw [this]
      | _ => simp [rd] at h2
     obtain rfl := ofi _ _ h2
     obtain rfl := ofi _ _ h3
     clear h1 h2 h3 r1 r2 k1 hrd
     unfold repAs at hreps
     obtain ⟨u1, s1, rfl, q1, hreps⟩ := hreps
     unfold repAs at hreps
     obtain ⟨u2, s2, rfl, q2, hreps⟩ := hreps
     unfold repAs at hreps
     obtain ⟨u3, s3, rfl, q3, hreps⟩ := hreps
     unfold repAs at hreps
     subst hreps
     unfold repA repC at q1 q2 q3
     obtain ⟨hn1, rfl⟩ := q1
     obtain ⟨rfl, hir⟩ := q2
     obtain ⟨rfl, hjr⟩ := q3
     simp only [rx] at hn1 ⊢
     obtain ⟨p0, p1, p2, p3⟩ : 0 ≤ i ∧ i < xs.length ∧ j = i + 1 ∧ xs.length ≤ 1000000 := hp
     have hN : N fr := hfr fr (by omega) (by omega)
     subst p2
     have hb1 := h.blk id
     rw [hm] at hb1
     obtain ⟨n, flat, hnl, b1, b2⟩ := hb1
     simp only [rx] at b1 b2
     subst hnl
     have hro : ∀ (x : SE.den) c, ro w (Owned cx σ m) SE x c → c.length = 2 := fun x c hc => ro_len SE x c hc
     have h1f := roAll_one _ _ b2 (fun x c hc => ro_one SE x c hc)
     obtain ⟨i, rfl⟩ : ∃ j : Nat, i = (j : Int) := ⟨i.toNat, by omega⟩
     have hil : i < xs.length := by omega
     have hzs : roAll (ro w (Owned cx σ m) SE) (delL xs i) (flat.take (i * 2) ++ flat.drop ((i + 1) * 2)) :=
      roAll_append _ _ _ _ (roAll_take hro b2 (i := i) (by show i ≤ xs.length; omega)).1 (roAll_take hro b2 (i := i + 1) (by show i + 1 ≤ xs.length; omega)).2
     have hzl : (delL xs i).length = xs.length - 1 := by unfold delL; simp only [List.length_append, List.length_take, List.length_drop]; omega
     rcases b1.2 with ⟨k, _⟩ | ⟨g, cap, cur, hc0, eg, hg, hnc, hcm, hcs, htk⟩
     · have k : xs.length = 0 := k
       omega
     rw [eg]
     refine (del_one g xs.length cap i cur flat w hil hnc hcm hg hcs htk h1f).mono ?_
     rintro e' w' ⟨rfl, cur', rfl, d1, d2⟩
     have := row_move (p := True) (q := True) (fr := fr) (t := SE) (zs := delL xs i) (w' := w.drew.setRow g cur') h hN hn1 hm eg (fun k hk => setRow_other w.drew g k cur' hk) rfl rfl rfl ⟨by simp, Nat.le_succ _⟩ hc0 (setRow_heap w.drew g cur cur' 65 (0, 0) hg) (by rw [hzl]; have hnc : xs.length ≤ cap := hnc; omega) hcm d1 hzs (by rw [hzl]; exact d2) trivial
     rw [hzl] at this
     refine ⟨_, rfl, res_same this rfl rfl ⟨⟨by show (delL xs i).length ≤ _; rw [hzl]; unfold maxLen; omega, fun y hy => ?_⟩, trivial⟩⟩
     obtain ⟨c, hc⟩ := roAll_mem _ _ hzs y hy
     exact ro_wf SE y c hc
end Go.Proofs.Ythbcniifeeoplaa

/- The comparison of a seal with a bag, walked. -/
set_option linter.unusedVariables false
set_option linter.unusedSimpArgs false
namespace Go.Proofs.Ythbcniifeeoplaa
open Go.Ev Go.RowKit

def cmpS (a b : Int) : Int := if a < b then -1 else if a > b then 1 else 0
set_option maxHeartbeats 4000000 in
set_option maxRecDepth 100000 in
theorem cmp_walk (a b k : Int) (blk : Nat) (w : World) (hc : w.cell? ⟨blk, 0, none⟩ = some (.func (.func 40) #[] #[])) :
 Calls Try.prog 48 #[.agg #[.int .i64 a, .int .i64 b], .int .i64 k, .pointer (some ⟨blk, 0, none⟩)] w fun e w' => e = .returned (.int .i64 (cmpS a k)) ∧ (∀ b, b < w.heap.size → w'.heap[b]? = w.heap[b]?) ∧ w'.os = w.os ∧ w'.tape = w.tape ∧ w'.output = w.output ∧ w.heap.size ≤ w'.heap.size ∧ w.drawn ≤ w'.drawn := by
 have mixed : Try.prog.follows .mixedOrders = true := by kernel_rfl
 have hb : blk < w.heap.size := block_lt_of_cell hc
 have hne : ¬ (blk = w.heap.size) := by omega
 go_enter Try.func48, Try.ntmps48
 go_wp2
 all_goals (
  go_ret
  refine ⟨?_, fun q hq => (heap_alloc_old (w.alloc _) _ (by simp; omega)).trans (heap_alloc_old w _ hq), rfl, rfl, rfl, by simp; omega, Nat.le_refl _⟩
  unfold cmpS
  first
   | (rw [if_pos (by omega)]; rfl)
   | (rw [if_neg (by omega), if_pos (by omega)]; rfl)
   | (rw [if_neg (by omega), if_neg (by omega)]; rfl))
/-- The contract: the closure that holds 'sealed$1'. -/
def rawS48 : Ctr := fun avs m fr => match avs with
 | [.agg [.int .i64 a, .int .i64 b], .one (.int .i64 k), .one (.loc id 0)] => (match m id with
   | .cells 80 [.fn 40 []] => ⟨True, .one (.int .i64 (cmpS a k)), [], True⟩
   | _ => bad)
 | _ => bad
structure RawC where
 ctr : Ctr
def conS48 : RawC := ⟨rawS48⟩
theorem cS48 : CtrOk Try.prog 48 conS48.ctr := by
 intro D gv hDS cx hcd σ N m w fr avs vs h hfr hreps hp
 unfold conS48 rawS48 at hp ⊢
 simp only at hp ⊢
 split at hp
 case h_2 => exact hp.elim
 rename_i a b k id
 split at hp
 case h_2 => exact hp.elim
 rename_i hm
 skip
 unfold repAs at hreps
 obtain ⟨u1, s1, rfl, q1, hreps⟩ := hreps
 unfold repAs at hreps
 obtain ⟨u2, s2, rfl, q2, hreps⟩ := hreps
 unfold repAs at hreps
 obtain ⟨u3, s3, rfl, q3, hreps⟩ := hreps
 unfold repAs at hreps
 subst hreps
 unfold repA at q1 q2 q3
 obtain ⟨us, rfl, hus⟩ := q1
 obtain ⟨x1, r1, rfl, g1, hus⟩ := repCs_cons.1 hus
 obtain ⟨x2, r2, rfl, g2, hus⟩ := repCs_cons.1 hus
 rw [repCs_nil.1 hus]
 unfold repC at g1 g2 q2 q3
 obtain ⟨rfl, _⟩ := g1
 obtain ⟨rfl, _⟩ := g2
 obtain ⟨rfl, _⟩ := q2
 obtain ⟨hn, blk, hσ, rfl⟩ := q3
 have hb := h.blk id
 rw [hm] at hb
 obtain ⟨b', ws, e1, e2, hc, _⟩ := hb
 simp only [rx] at e1 e2 hσ
 rw [hσ] at e1
 cases e1
 obtain ⟨f1, s1, rfl, k1, k2⟩ := repCs_cons.1 hc
 rw [repCs_nil.1 k2] at e2
 unfold repC at k1
 obtain ⟨vs1, rfl, k3⟩ := k1
 rw [repCs_nil.1 k3] at e2
 refine (cmp_walk a b k blk w (by simp only [World.cell?]; rw [show w.heap[blk]? = some (.cells #[.func (.func 40) #[] #[]] 80 (0, 0)) from e2]; rfl)).mono ?_
 rintro e' w' ⟨rfl, w1, w2, w3, w4, w5, w6⟩
 refine ⟨_, rfl, ?_⟩
 obtain ⟨g3, g4⟩ := h.step (σ' := σ) (N' := Nx N fr) (m' := m) (w' := w') (fun _ => False) (fun _ k => k.1) (fun i k => h.fresh i k.1) (fun _ _ => ⟨rfl, rfl⟩) (fun _ _ => rfl) (fun q hq _ => w1 q hq) ⟨w5, w6⟩ w2 w3 w4
  (fun _ _ k => k.elim) (fun _ _ _ k => k.elim) (fun _ k => k.elim) (fun _ _ k => k.elim)
 refine ⟨σ, g3, g4, ?_, trivial⟩
 unfold repA repC
 refine ⟨rfl, ?_⟩
 unfold cmpS
 (repeat' split) <;> (unfold InR; decide)
attribute [go_sem] rawS48 conS48
end Go.Proofs.Ythbcniifeeoplaa
