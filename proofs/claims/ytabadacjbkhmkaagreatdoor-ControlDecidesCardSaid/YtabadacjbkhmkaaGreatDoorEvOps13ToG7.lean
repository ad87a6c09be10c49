/- Part. -/
import Derived.Test.YtabadacjbkhmkaaGreatDoorEvOps11ToG4
set_option linter.all false
namespace Go.Ev
section
variable {cx : Cx} {σ : Nat → Value} {N : Nat → Prop} {m : Mem} {w : World} {P : Program} {T : Tab} {G : Env} {o : Oper} {fr : Nat} {ρ : Operand → Value} {av : Operand → AV}
theorem zA4 (z : Array Value) (k : Nat) (hk : z.size = k) : ∀ n, (List.range (n * k)).map (fun i => z[i % k]!) = (List.replicate n z.toList).flatten
 | 0 => by simp
 | n + 1 => by
   rw [List.replicate_succ', List.flatten_append, ← zA4 z k hk n, Nat.add_mul, Nat.one_mul, List.range_add, List.map_append]; congr 1; rw [List.map_map]; simp only [List.flatten_cons, List.flatten_nil, List.append_nil]; apply List.ext_getElem
   · simp [hk]
   · intro j h1 h2; simp at h1; simp only [List.getElem_map, Function.comp, List.getElem_range, Array.getElem_toList]; rw [show (n * k + j) % k = j by rw [Nat.add_comm, Nat.mul_comm, Nat.add_mul_mod_self_left]; exact Nat.mod_eq_of_lt h1]; exact getElem!_pos z j (by omega)
theorem dA5 {O : Nat → Prop} {t : Ty} {x : t.den} {vs : List Value} (h : ro w O t x vs) : ∀ n, roAll (ro w O t) (List.replicate n x) (List.replicate n vs).flatten
 | 0 => by simp [roAll]
 | n + 1 => by
   simp only [List.replicate_succ, List.flatten_cons]; exact ⟨_, _, rfl, h, dA5 h n⟩
theorem zA5 (ht : TabOK P T) {e : TypeId} {u : Ty} (hty : (TI.of T e).ty = some u) (hzt : (TI.of T e).zt = true) {O : Nat → Prop} :
 ∃ i z, P.info? e = some i ∧ i.zero = some z ∧ i.size = u.n ∧ i.bytes = (TI.of T e).bytes ∧ z.cells.size = u.n ∧ 0 < u.n ∧ 0 < i.bytes ∧ ro w O u u.dflt z.cells.toList := by
 have hte := TI.of_ok ht e (fun k => by rw [k] at hty; cases hty); obtain ⟨i, hi, hs, hby, z, hz, hzs, _⟩ := hte.info; obtain ⟨hun, hpos, hbp⟩ := hte.ty u hty; obtain ⟨i', vs, hi', hz', hzt'⟩ := hte.zt u hzt hty; rw [hi] at hi'; cases hi'; rw [hz] at hz'; cases hz'; have hro := zB2 (w := w) (O := O) u vs hzt'; have hl := qA0 u _ _ hro; refine ⟨i, _, hi, hz, by omega, hby, by rw [hzs, hun], by omega, by omega, ?_⟩; have e1 : (mkV (TI.of T e).agg vs).cells.toList = vs := by
  unfold mkV at hzs ⊢
  cases hag : (TI.of T e).agg with
  | true => simp [Value.cells]
  | false =>
    have h1 : vs.length = 1 := by have := hte.one hag; omega
    match vs, h1 with
    | [v], _ =>
      have := pB2 u _ _ hro v (by simp); simp only [Bool.false_eq_true, if_false, List.getD_cons_zero]; cases v <;> first | rfl | (simp [Value.oneCell'] at this)
 rw [e1]; exact hro
theorem iB0 {x : Rx} {v : Ty} : ∀ n : Nat, roAll (elG x (.sl v) 0) ((List.replicate n ([] : List v.den)).zip ((List.replicate n (Value.slice none 0 0)).map some)) (List.replicate n (Value.slice none 0 0))
 | 0 => rfl
 | n + 1 => ⟨[.slice none 0 0], _, rfl, ⟨by simp, fun v hv => by cases hv; rfl, fun u hu => by simp at hu; rw [hu]; rfl, none, 0, 0, rfl, rfl, Nat.le_refl _, by simp [maxLen], .inl rfl⟩, iB0 n⟩
theorem bB4 : ∀ n : Nat, (List.replicate n [Value.slice none 0 0]).flatten = List.replicate n (Value.slice none 0 0)
 | 0 => rfl
 | n + 1 => by rw [List.replicate_succ, List.replicate_succ, List.flatten_cons, bB4 n]; rfl
theorem dC7 (h : RepM cx σ N m w) (hfr : ∀ id, fr ≤ id → id < fr + 32 → N id) {t e e2 : TypeId} {x y : Operand} (ho : o.op = .makeSlice t x y) (ht : TabOK P T) {n c : Int} (hx : repA (rx cx σ N m w) (.one (.int .i64 n)) (ρ x)) (hy : repA (rx cx σ N m w) (.one (.int .i64 c)) (ρ y))
 (hd : (TI.of T t).desc = .slice e) {u : Ty} (hty : (TI.of T e).ty = some u) (hzt : (TI.of T e).zt = true)
 (hp : (makeSG e2 fr e (TI.of T e).bytes n c u).pre) : Runs P w (Res cx σ N m w fr (makeSG e2 fr e (TI.of T e).bytes n c u)) ((execOp ρ o).run P w) := by
 cases u with
 | sl v =>
   simp only [makeSG] at hp ⊢; obtain ⟨p1, p2, p3⟩ := hp; have hst := (TI.of_ok ht t (fun k => by rw [k] at hd; cases hd)).slice e hd; have hte := TI.of_ok ht e (fun k => by rw [k] at hty; cases hty); obtain ⟨i0, vs0, hi0, hz0, hzt0⟩ := hte.zt (.sl v) hzt hty; have hv0 : vs0 = [.slice none 0 0] := hzt0; obtain ⟨i, z, hi, hz, hs, hby, hzs, hun, hbp, hro⟩ := zA5 (w := w) (O := Owned cx σ m) ht hty hzt; have hii : i = i0 := by rw [hi] at hi0; exact Option.some.inj hi0
   subst hii; rw [hz] at hz0; have hz1 : z.cells.toList = [.slice none 0 0] := by
    cases hz0; rw [hv0]; cases (TI.of T e).agg <;> rfl
   obtain ⟨ex, _⟩ := lA1 hx; obtain ⟨ey, _⟩ := lA1 hy; have hn63 : c.toNat ≤ maxLen := by
    have : c * 1 ≤ c * (TI.of T e).bytes := Int.mul_le_mul_of_nonneg_left (by omega) (by omega); simp only [maxLen]; omega
   have hbytes : (i.bytes : Int) * c ≤ 281474976710656 := by rw [hby, Int.mul_comm]; omega
   have hrun := run_make (P := P) w t e i z hst hi hz .i64 .i64 n c p1 p2 hbytes (by simp [maxLen] at hn63; omega); have hn1 : (Ty.sl v).n = 1 := rfl; have hcells : (madeCells z.cells (c.toNat * i.size)).toList = List.replicate c.toNat (.slice none 0 0) := by
    have := zA4 z.cells (Ty.sl v).n hzs c.toNat; rw [hz1, bB4] at this; rw [← this]; unfold madeCells; rw [Array.toList_map, Array.toList_range, hs, hzs]
   have hmk := oB2 (cx := cx) (σ := σ) (m := m) (w := w) (r := none) (e := e) (e2 := e2) (t := .sl v) (u := v) (p := 0) (xs := List.replicate n.toNat []) (xss := List.replicate n.toNat []) (vs := List.replicate n.toNat (.slice none 0 0)) (v := .slice (some ⟨w.heap.size, 0, none⟩) n.toNat c.toNat) (v' := .slice (some ⟨w.heap.size, 0, none⟩) n.toNat c.toNat) (flat := List.replicate n.toNat (.slice none 0 0)) (av := .one (.row fr)) (pr := 0 ≤ n ∧ n ≤ c ∧ c * (TI.of T e).bytes ≤ 140737488355328) (q := True) h hfr (fun i e => by cases e)
    (fA7 n.toNat) (fun v hv b hb => by rw [List.mem_replicate] at hv; rw [hv.2] at hb; cases hb) rfl (fun b hb => by
      rw [hb_slice] at hb; by_cases hc : 0 < c.toNat
      · rw [gA0 hc] at hb; simp at hb; omega
      · rw [show c.toNat = 0 by omega, cA1] at hb; cases hb) (oA1 w (.cells (madeCells z.cells (c.toNat * i.size)) e)) (by simp)
    (by rw [List.length_replicate]; exact bA4 (by simp [hn1]) (heap_alloc_new w (.cells (madeCells z.cells (c.toNat * i.size)) e)) (by omega) hn63 (by rw [size_madeCells, hs]) (by rw [hcells, hn1, Nat.mul_one, List.take_replicate, Nat.min_eq_left (by omega)])) (iB0 n.toNat) (fun x h1 h2 => by
      unfold repA repC; exact ⟨h1, h2.symm⟩) trivial
   refine bA0 ?_ hmk
   simp only [execOp, ho, ex, ey, hrun, Sem.run_bind, Result.andThen_ok, Sem.run_pure]
 | _ => exact hp.elim
theorem qB5 (h : RepM cx σ N m w) (hfr : ∀ id, fr ≤ id → id < fr + 32 → N id) {t : TypeId} {x y : Operand} (ho : o.op = .makeSlice t x y) (ht : TabOK P T) (hx : repA (rx cx σ N m w) (av x) (ρ x)) (hy : repA (rx cx σ N m w) (av y) (ρ y))
 (hp : (opEff T G o [av x, av y] m fr).pre) : Runs P w (Res cx σ N m w fr (opEff T G o [av x, av y] m fr)) ((execOp ρ o).run P w) := by
 simp only [opEff, ho] at hp ⊢; split at hp <;> rename_i heq
 · rename_i e n c hd; simp only [List.cons.injEq, and_true] at heq; rw [heq.1] at hx; rw [heq.2] at hy; split at hp
   · rename_i u hty; split at hp
     · rename_i hzt; rw [if_pos hzt]; by_cases h8 : 8 ≤ wfOf G o.dst
       · rw [if_pos h8] at hp ⊢; exact dC7 h hfr ho ht hx hy hd hty hzt hp
       rw [if_neg h8] at hp ⊢; obtain ⟨p1, p2, p3⟩ := hp; have hst := (TI.of_ok ht t (fun k => by rw [k] at hd; cases hd)).slice e hd; obtain ⟨i, z, hi, hz, hs, hby, hzs, hun, hbp, hro⟩ := zA5 (w := w) (O := Owned cx σ m) ht hty hzt; obtain ⟨ex, _⟩ := lA1 hx; obtain ⟨ey, _⟩ := lA1 hy; have hn63 : c.toNat ≤ maxLen := by
        have : c * 1 ≤ c * (TI.of T e).bytes := Int.mul_le_mul_of_nonneg_left (by omega) (by omega); simp only [maxLen]; omega
       have hbytes : (i.bytes : Int) * c ≤ 281474976710656 := by rw [hby, Int.mul_comm]; omega
       have hrun := run_make (P := P) w t e i z hst hi hz .i64 .i64 n c p1 p2 hbytes (by simp [maxLen] at hn63; omega); have hcells : (madeCells z.cells (c.toNat * i.size)).toList = (List.replicate c.toNat z.cells.toList).flatten := by
        rw [← zA4 z.cells u.n hzs c.toNat]; unfold madeCells; rw [Array.toList_map, Array.toList_range, hs, hzs]
       have hfl := dA5 hro n.toNat; have hlen := nA0 (fun x c => qA0 u x c) _ _ hfl; simp only [List.length_replicate] at hlen; have hnc : n.toNat ≤ c.toNat := by omega
       have hsplit : (List.replicate c.toNat z.cells.toList).flatten = (List.replicate n.toNat z.cells.toList).flatten ++ (List.replicate (c.toNat - n.toNat) z.cells.toList).flatten := by
        rw [← List.flatten_append, List.replicate_append_replicate]; congr 2; omega
       have := eA9 (fr := fr) (e := e) (t := u) (xs := List.replicate n.toNat u.dflt) (cap := c.toNat) (p := 0 ≤ n ∧ n ≤ c ∧ c * (TI.of T e).bytes ≤ 140737488355328) (q := True) (u0 := []) ⟨Keep.refl _ _, fun _ _ => rfl, fun _ h => h⟩ h (hfr fr (by omega) (by omega)) (fun id hid _ => hid)
        (oA1 w _) (heap_alloc_new w (.cells (madeCells z.cells (c.toNat * i.size)) e)) hfl (by simpa using hnc) hn63 (by rw [size_madeCells, hs]) (by rw [hcells, List.length_replicate, ← hlen, hsplit]; exact List.take_left) trivial rfl
       simp only [List.length_replicate] at this; refine bA0 ?_ this; simp only [execOp, ho, ex, ey, hrun, Sem.run_bind, Result.andThen_ok, Sem.run_pure]
     · exact hp.elim
   · exact hp.elim
 · exact hp.elim
theorem oB8 {e : TypeId} {t : Ty} {d : C1} {id lo len : Nat} {xs : List t.den} (h : RepM cx σ N m w) (hw : winOf m e t d = some (id, lo, len, xs)) {v : Value} (hd : repC (rx cx σ N m w) d v) :
 m id = .row e t xs ∧ lo + len ≤ xs.length ∧ repC (rx cx σ N m w) (.win id t.n lo len) v := by
 unfold winOf at hw; split at hw
 · rename_i id'; split at hw
   · rename_i e' u ys hm; split at hw
     · rename_i he; subst he
       cases hc : castTy u t ys with
       | none => rw [hc] at hw; cases hw
       | some zs =>
         rw [hc] at hw; obtain ⟨e1, rfl⟩ := aA1 hc; subst e1; simp only [Option.map_some, Option.some.injEq, Prod.mk.injEq] at hw; obtain ⟨rfl, rfl, rfl, rfl⟩ := hw; refine ⟨hm, by simp, ?_⟩; have hb := h.blk id'; rw [hm] at hb; obtain ⟨a, cap, flat, g1, g2, g3, g4, g5⟩ := yA1 hb; unfold repC at hd ⊢; obtain ⟨hn, rfl⟩ := hd; simp only [rx] at hn ⊢; refine ⟨hn, a, ys.length, cap, a, g1, by omega, g2, by rw [Nat.sub_zero]; exact g1, fun hc => ?_⟩
         rcases g5 with ⟨rfl, _⟩ | ⟨b, rfl, _⟩
         · omega
         · exact ⟨b, rfl, by rw [Nat.zero_mul]⟩
     · cases hw
   · cases hw
 · rename_i id' sz lo' len'; split at hw
   · rename_i e' u ys hm; split at hw
     · rename_i he; obtain ⟨rfl, rfl, hll⟩ := he
       cases hc : castTy u t ys with
       | none => rw [hc] at hw; cases hw
       | some zs =>
         rw [hc] at hw; obtain ⟨e1, rfl⟩ := aA1 hc; subst e1; simp only [Option.map_some, Option.some.injEq, Prod.mk.injEq] at hw; obtain ⟨rfl, rfl, rfl, rfl⟩ := hw; exact ⟨hm, hll, hd⟩
     · cases hw
   · cases hw
 · cases hw
theorem dB1 {id : Nat} {e : TypeId} {u : Ty} {xs : List u.den} (hm : m id = .row e u xs) : upd m id (.row e u xs) = m := by
 funext i; unfold upd; split
 · rename_i e; rw [← e]; exact hm.symm
 · rfl
theorem vC2 (h : RepM cx σ N m w) {id : Nat} {B : Blk} {w' : World} (hsz : w.heap.size ≤ w'.heap.size) (k4 : RepM cx σ N (upd m id B) w') (k5 : Rx.Keeps (rx cx σ N m w) (rx cx σ N (upd m id B) w')) {r : AV} {v : Value} (hr : ∀ x, repA x r v) (p : Prop) :
 Res cx σ N m w fr ⟨p, r, [(id, B)], True⟩ v w' := by
 obtain ⟨g3, g4⟩ := k4.weaken (N' := Nx N fr) (fun _ k => k.1); exact ⟨σ, g3, ⟨k5.k.trans g4.k (by simpa [rx] using hsz), fun _ _ => rfl, fun _ k => k.1⟩, hr _, trivial⟩
theorem bD1 (h : RepM cx σ N m w) {x : Operand} {ts : Array TypeId} (ho : o.op = .call { callee := .builtin .clear, args := #[x], argTypes := ts }) (ht : TabOK P T) (hx : repA (rx cx σ N m w) (av x) (ρ x))
 (hp : (builtinE T .clear ts [av x] m fr).pre) : Runs P w (Res cx σ N m w fr (builtinE T .clear ts [av x] m fr)) ((execOp ρ o).run P w) := by
 simp only [builtinE] at hp ⊢; split at hp <;> rename_i heq
 · rename_i d; simp only [List.cons.injEq, and_true] at heq; rw [heq] at hx; unfold repA at hx; split at hp
   · rename_i t hts; have hts' : ts = #[t] := by rw [← Array.toArray_toList (xs := ts), hts]
     subst hts'; split at hp
     · rename_i e hd; split at hp
       · rename_i u hty; split at hp
         · rename_i hzt; rw [if_pos hzt]; have hu := (TI.of_ok ht t (fun k => by rw [k] at hd; cases hd)).slice e hd; obtain ⟨i, z, hi, hz, hs, hby, hzs, hun, hbp, hro⟩ := zA5 (w := w) (O := Owned cx σ m) ht hty hzt; unfold clearE at hp ⊢; split at hp
           · rename_i id lo len xs hw; obtain ⟨hm, hll, hwin⟩ := oB8 h hw hx; have hb := h.blk id; rw [hm] at hb; obtain ⟨a2, cap2, flat2, g1, g2, g3, g4, g5⟩ := yA1 hb; obtain ⟨q1, q2, a', q3, q4⟩ := uA4 hwin (by simp only [rx]; exact g1); by_cases hk : len = 0
             · subst hk; have hrun : (execOp ρ o).run P w = .ok (.value (.tuple #[])) w := by
                rw [qA1 ho]; cases a' <;> simp [builtin, Builtin.clear_, run_underlying hu, q3]
               have hid : xs.take lo ++ (List.replicate 0 u.dflt ++ xs.drop (lo + 0)) = xs := by simp
               rw [hid]; refine bA0 hrun (vC2 h (Nat.le_refl _) (by rw [dB1 hm]; exact h) (by rw [dB1 hm]; exact ⟨Keep.refl _ _, fun _ _ => rfl, fun _ h => h⟩) (fun x => by unfold repA repC; trivial) True)
             · have hus := dA5 hro len; obtain ⟨b, cp, w', k1, k2, k3, k4, k4', k5, k6⟩ := jC4 (P := P) (off := 0) (ys := List.replicate len u.dflt) h hm hwin hun (by simp; omega) hus (by simp; omega); rw [Nat.zero_mul, Nat.add_zero] at k4; rw [Nat.add_zero, List.length_replicate] at k5 k6; have hzc : (Builtin.zeroCells z.cells len).toList = (List.replicate len z.cells.toList).flatten := by
                rw [← zA4 z.cells u.n hzs len]; unfold Builtin.zeroCells; rw [Array.toList_map, Array.toList_range, hzs]
               have hzv : (zeroValue e).run P w = .ok z w := wA0 hi hz; have hrun : (execOp ρ o).run P w = .ok (.value (.tuple #[])) w' := by
                rw [qA1 ho]; obtain ⟨l', rfl⟩ : ∃ l', len = l' + 1 := ⟨len - 1, by omega⟩; simp [builtin, Builtin.clear_, run_underlying hu, k1, hzv, hzc, k4]
               refine bA0 hrun (vC2 h k4' k5 k6 (fun x => by unfold repA repC; trivial) True)
           · exact hp.elim
         · exact hp.elim
       · exact hp.elim
     · exact hp.elim
   · exact hp.elim
 · exact hp.elim
end
end Go.Ev

namespace Go.Ev
section
variable {cx : Cx} {σ : Nat → Value} {N : Nat → Prop} {m : Mem} {w : World} {P : Program} {T : Tab} {G : Env} {o : Oper} {fr : Nat} {ρ : Operand → Value} {av : Operand → AV}
theorem hC5 {α : Type} {c us : List α} {p off : Nat} {z : α} (hf : off + us.length ≤ c.length) (h : p < off ∨ off + us.length ≤ p) (hp : p < c.length) :
 (c.take off ++ us ++ c.drop (off + us.length)).set p z = (c.set p z).take off ++ us ++ (c.set p z).drop (off + us.length) ∧ (c.take off ++ us ++ c.drop (off + us.length))[p]? = c[p]? := by
 have hl : (c.take off).length = off := by simp; omega
 rcases h with h | h
 · constructor
   · rw [List.append_assoc, List.set_append_left _ _ (by omega), List.take_set, List.drop_set_of_lt (by omega), List.append_assoc]
   · rw [List.append_assoc, List.getElem?_append_left (by omega), List.getElem?_take_of_lt h]
 · constructor
   · rw [List.set_append_right _ _ (by simp; omega), List.take_set, List.set_eq_of_length_le (l := c.take off) (by omega), List.drop_set, if_neg (by omega)]; congr 2; simp only [List.length_append, hl]
   · rw [List.getElem?_append_right (by simp; omega), List.getElem?_drop]; simp only [List.length_append, hl]; congr 1; omega
theorem gD3 (h : RepM cx σ N m w) {id sz fid off p : Nat} {i : Int} {e : TypeId} {t' : Ty} {xs : List t'.den} {t : TypeId} {x y : Operand} {a : AV} (ho : o.op = .store t x y) (ht : TabOK P T) (hm : m id = .rowg e t' p fid xs none) (hx : repC (rx cx σ N m w) (.ep id sz i off) (ρ x)) (hy : repA (rx cx σ N m w) a (ρ y))
 (hp : (putG m (TI.of T t) a.cells id sz i off e t' p fid xs).pre) : Runs P w (Res cx σ N m w fr (putG m (TI.of T t) a.cells id sz i off e t' p fid xs)) ((execOp ρ o).run P w) := by
 unfold putG at hp ⊢; split at hp
 · rename_i hc; rw [if_pos hc]; obtain ⟨hpos, hl, hfit, rfl, hpo, hrw, hka⟩ := hc; split at hp
   · rename_i y' him; obtain ⟨hi0, hi1⟩ := hp; have hi : i.toNat < xs.length := by omega
     have htt := TI.of_ok ht t (wA6 (by omega)); obtain ⟨ii, hii, hs, _⟩ := htt.info; unfold repC at hx; obtain ⟨hn, b, n, cp, e1, e2⟩ := hx; simp only [rx] at e1 hn; have hne : a.cells ≠ [] := fun e => by rw [e] at hl; simp at hl; omega
     have hac := fA3 (x := rx cx σ N m w) h.hone hy hka hne; have hal := jA0 _ _ hac; have h1a := mA2 h.hone _ _ hka hac; have hb := h.blk id; rw [hm] at hb; obtain ⟨f, vs, flat, b1, b2, b3, b4, b5⟩ := hb; simp only [rx] at b1 b2 b4; obtain ⟨pre, c0, post, f1, f3, f4, f5, f6⟩ := gB8 b5 (by rw [uA1]; exact b3) hi; have hlc : c0.length = t'.n := rB0 _ _ f4; rw [e1] at b4; obtain ⟨w', hst, w1, w2, w3, w4, w5, w6, w7⟩ := fA6 (P := P) b4 (by omega) hii (off := i.toNat * t'.n + off) (v := ρ y) (by rw [← Array.length_toList, hal, hl, hs]) h1a (by
      rw [f1, hs]; simp only [List.length_append]; omega)
     have hul : (ρ y).cells.toList.length = (TI.of T t).size := by rw [hal, hl]
     have hov : flat.take (i.toNat * t'.n + off) ++ (ρ y).cells.toList ++ flat.drop (i.toNat * t'.n + off + (ρ y).cells.toList.length) = pre ++ ((c0.take off ++ (ρ y).cells.toList ++ c0.drop (off + (ρ y).cells.toList.length)) ++ post) := by
      rw [f1, ← f3]; exact gA7 pre c0 post (ρ y).cells.toList off (by omega)
     rw [hov] at w7; have hrun : (execOp ρ o).run P w = .ok .skip w' := by
      simp only [execOp, ho, Instr.storeAt, Instr.sureAddr, e2, Sem.run_bind, Sem.run_pure, Result.andThen_ok, hst]
     obtain ⟨o1, o2⟩ := hC5 (c := c0) (us := (ρ y).cells.toList) (p := p) (off := off) (z := .slice none 0 0) (by omega) (by omega) f4.1; have hex : ∀ (t : Ty) (y : t.den), rowsOf (expl t y) = [] := by
      intro t
      induction t with
      | pair a b iha ihb => intro y; simp [expl, kA0, iha, ihb]
      | _ => intro y; rfl
     have hno : ∀ id ∈ rowsOf (overC (expl t' (xs.getD i.toNat t'.dflt)) off a.cells), own (m id) = false := fun id hid => by
      unfold overC at hid; rw [kA0, kA0, hrw] at hid; simp only [List.mem_append] at hid
      rcases hid with (hid | hid) | hid
      · have := xA1 hid; rw [hex] at this; cases this
      · cases hid
      · have := wA1 hid; rw [hex] at this; cases this
     have hr := f4.2.2.2; rw [← pA4 xs i.toNat t'.dflt hi] at hr; have hnew := rA2 h t' _ y' _ him (lA3 (vA0 (x := rx cx σ N m w) t' _ _ hr) hac) hno; obtain ⟨g1, g2⟩ := h.write hn (.rowg e t' p fid (xs.set i.toNat y') none) (b := b) (by rw [e1]; exact w6) (by rw [hm]; rfl) (w' := w') w1 w2 w3 w4 w5 (fun hk => by
      refine ⟨f, vs, _, b1, b2, by rw [List.length_set]; exact b3, by simp only [rx]; rw [e1, List.length_set]; exact w7, ?_⟩; have hz : (xs.set i.toNat y').zip (holed vs.toList none) = (xs.zip (holed vs.toList none)).set i.toNat (y', (holed vs.toList none)[i.toNat]'(by rw [uA1]; omega)) := by
       rw [← bA7, bB2]
      rw [hz]; refine nA4 (by rw [List.length_zip, uA1]; omega) (fA0 (fA1 hk.k) _ _ f5) (fA1 hk.k _ _ ?_) (fA0 (fA1 hk.k) _ _ f6); refine ⟨by simp only [List.length_append, List.length_take, List.length_drop]; have := f4.1; omega, fun v hv => by rw [o2]; exact f4.2.1 v hv, fun q hq => ?_, by rw [o1]; exact hnew⟩; simp only [List.mem_append] at hq
      rcases hq with (hq | hq) | hq
      · exact f4.2.2.1 q (List.mem_of_mem_take hq)
      · exact h1a q hq
      · exact f4.2.2.1 q (List.mem_of_mem_drop hq))
     obtain ⟨g3, g4⟩ := g1.weaken (N' := Nx N fr) (fun _ k => k.1); exact lA2 hrun ⟨σ, g3, ⟨g2.k.trans g4.k (by simp only [rx]; exact w2.1), fun _ _ => rfl, fun _ k => k.1⟩, by unfold repA repC; trivial, trivial⟩
   · exact hp.elim
 · exact hp.elim
theorem kC6 (h : RepM cx σ N m w) {t : TypeId} {x y : Operand} (ho : o.op = .store t x y) (ht : TabOK P T) (hU : isU (TI.of T t) = true) {c : C1} {v : AV} (hx : repA (rx cx σ N m w) (.one c) (ρ x)) (hy : repA (rx cx σ N m w) v (ρ y))
 (hp : (storeU v c).pre) : Runs P w (Res cx σ N m w fr (storeU v c)) ((execOp ρ o).run P w) := by
 unfold storeU at hp ⊢; split at hp
 · rename_i id off; unfold repA at hx hy; unfold repC at hx; obtain ⟨hn, b, q1, q2⟩ := hx; obtain ⟨vs, q3, q4⟩ := hy; have q5 := repCs_nil.1 q4; subst q5; obtain ⟨i, hi, hs, hz⟩ := cA7 ht hU; have hrun : (execOp ρ o).run P w = .ok .skip w := by
    simp [execOp, ho, Instr.storeAt, Instr.sureAddr, q2, q3, storeVar, tA0 hi, hs, Value.cells, storeCells]
   obtain ⟨g1, g2⟩ := h.weaken (N' := Nx N fr) (fun _ k => k.1); exact lA2 hrun ⟨σ, g1, g2, by unfold repA repC; trivial, trivial⟩
 · exact hp.elim
theorem vC5 (h : RepM cx σ N m w) {fid i sz off : Nat} {k : Int} {t : TypeId} {x y : Operand} {a : AV} (ho : o.op = .store t x y) (ht : TabOK P T) (hx : repC (rx cx σ N m w) (.nep fid i sz k off) (ρ x)) (hy : repA (rx cx σ N m w) a (ρ y))
 (hp : (storeN m (TI.of T t) a fid i sz k off (m fid)).pre) : Runs P w (Res cx σ N m w fr (storeN m (TI.of T t) a fid i sz k off (m fid))) ((execOp ρ o).run P w) := by
 cases hm : m fid with
 | fam e u xss =>
   rw [hm] at hp; simp only [storeN] at hp ⊢; split at hp
   · rename_i hc; rw [if_pos hc]; obtain ⟨hpos, hl, hfit, rfl, hrw, hka⟩ := hc; split at hp
     · rename_i y' him
       try simp only [him]
       obtain ⟨hk0, hk1⟩ := hp; have hk : k.toNat < (xss.getD i []).length := by omega
       have htt := TI.of_ok ht t (wA6 (by omega)); obtain ⟨ii, hii, hs, _⟩ := htt.info; unfold repC at hx; obtain ⟨hn, f, vs, b, n, c, e1, e2, e3⟩ := hx; simp only [rx] at e1 hn; have hne : a.cells ≠ [] := fun e => by rw [e] at hl; simp at hl; omega
       have hac := fA3 (x := rx cx σ N m w) h.hone hy hka hne; have hal := jA0 _ _ hac; have h1a := mA2 h.hone _ _ hka hac; obtain ⟨hil, c2, flat, r2, r3, r4⟩ := fA8 h hm e1 e2; obtain ⟨pre, c0, post, f1, f3, f4, f5, f6⟩ := sA2 (fun x c => qA0 u x c) r3 hk; have hlc : c0.length = u.n := qA0 _ _ _ f4; obtain ⟨w', hst, w1, w2, w3, w4, w5, w6, w7⟩ := fA6 (P := P) r2 (by omega) hii (off := k.toNat * u.n + off) (v := ρ y) (by rw [← Array.length_toList, hal, hl, hs]) h1a (by
        rw [f1, hs]; simp only [List.length_append]; omega)
       have hov : flat.take (k.toNat * u.n + off) ++ (ρ y).cells.toList ++ flat.drop (k.toNat * u.n + off + (ρ y).cells.toList.length) = pre ++ ((c0.take off ++ (ρ y).cells.toList ++ c0.drop (off + (ρ y).cells.toList.length)) ++ post) := by
        rw [f1, ← f3]; exact gA7 pre c0 post (ρ y).cells.toList off (by omega)
       rw [hov] at w7; have hrun : (execOp ρ o).run P w = .ok .skip w' := by
        simp only [execOp, ho, Instr.storeAt, Instr.sureAddr, e3, Sem.run_bind, Sem.run_pure, Result.andThen_ok, hst]
       have hex : ∀ (t : Ty) (y : t.den), rowsOf (expl t y) = [] := by
        intro t
        induction t with
        | pair a b iha ihb => intro y; simp [expl, kA0, iha, ihb]
        | _ => intro y; rfl
       have hno : ∀ id ∈ rowsOf (overC (expl u ((xss.getD i []).getD k.toNat u.dflt)) off a.cells), own (m id) = false := fun id hid => by
        unfold overC at hid; rw [kA0, kA0, hrw] at hid; simp only [List.mem_append] at hid
        rcases hid with (hid | hid) | hid
        · have := xA1 hid; rw [hex] at this; cases this
        · cases hid
        · have := wA1 hid; rw [hex] at this; cases this
       have f4' := f4; rw [← pA4 _ k.toNat u.dflt hk] at f4'; have hnew := rA2 h u _ y' _ him (lA3 (vA0 (x := rx cx σ N m w) u _ _ f4') hac) hno; have ofid : own (m fid) = true := by rw [hm]; rfl
       have hfb : ∀ (j : Nat) q b, vs.toList[j]? = some q → blkOf q = some b → hb (σ fid) b := fun j q b hq hqb => by rw [e1]; exact hb_fam.2 ⟨q, List.mem_of_getElem? hq, hqb⟩
       obtain ⟨g1, g2⟩ := h.step (σ' := σ) (N' := N) (m' := upd m fid (.fam e u (xss.set i ((xss.getD i []).set k.toNat y')))) (w' := w') (fun j => j = fid) (fun _ q => q)
        (fun j q => by rw [iA0 _ _ (fun (e : j = fid) => hn (by rw [← e]; exact q))]; exact h.fresh j q) (fun j hj => ⟨iA0 _ _ hj, rfl⟩) (fun _ _ => rfl)
        (fun bb _ hx => w1 bb (fun e => hx fid rfl ofid (by rw [e]; exact hfb i _ b e2 w6))) w2 w3 w4 w5
        (fun j bb hj _ hbb => by subst hj; exact .inr ⟨_, rfl, ofid, hbb⟩)
        (fun j j' bb hj hj' _ _ _ _ => hj.trans hj'.symm) (fun j _ => h.hone j)
        (fun hk2 j hj => by
          subst hj; rw [upd_same]; refine ⟨f, vs, e1, by rw [List.length_set]; exact c2.len, fun q xs v q1 q2 => ?_, c2.inj⟩; by_cases hqi : i = q
          · subst hqi; rw [e2] at q2; cases q2; rw [List.getElem?_set, if_pos rfl, if_pos hil] at q1; simp only [Option.some.injEq] at q1; subst q1; refine ⟨rfl, _, by rw [List.length_set]; exact w7, ?_⟩; refine nA4 hk (fA0 (hA0 hk2.k u) _ _ f5) (hA0 hk2.k _ _ _ hnew) (fA0 (hA0 hk2.k u) _ _ f6)
          · rw [List.getElem?_set, if_neg hqi] at q1; obtain ⟨p1, fl, p2, p3⟩ := c2.row q xs v q1 q2; exact ⟨p1, fl, dA1 p2 (fun g hg => w1 g (fun e => hqi (c2.inj i q _ v b e2 q2 w6 (e ▸ hg)))), fA0 (hA0 hk2.k u) _ _ p3⟩)
       obtain ⟨g3, g4⟩ := g1.weaken (N' := Nx N fr) (fun _ q => q.1); exact lA2 hrun ⟨σ, g3, ⟨g2.k.trans g4.k (by simp only [rx]; exact w2.1), fun _ _ => rfl, fun _ q => q.1⟩, by unfold repA repC; trivial, trivial⟩
     · exact hp.elim
   · exact hp.elim
 | _ => rw [hm] at hp; exact hp.elim
theorem yC4 (h : RepM cx σ N m w) (hfr0 : N fr) {t : TypeId} {x y : Operand} (ho : o.op = .store t x y) (ht : TabOK P T) (hx : repA (rx cx σ N m w) (av x) (ρ x)) (hy : repA (rx cx σ N m w) (av y) (ρ y))
 (hp : (opEff T G o [av x, av y] m fr).pre) : Runs P w (Res cx σ N m w fr (opEff T G o [av x, av y] m fr)) ((execOp ρ o).run P w) := by
 by_cases hU : isU (TI.of T t) = true
 · simp only [opEff, ho, hU, if_true] at hp ⊢
   cases hav : av x with
   | one c =>
     rw [hav] at hx; simp only [hav] at hp ⊢
     exact kC6 h ho ht hU hx hy hp
   | _ => simp only [hav] at hp; exact hp.elim
 by_cases hq : ∃ fid i sz k off, av x = .one (.nep fid i sz k off)
 · obtain ⟨fid, i, sz, k, off, e⟩ := hq; simp only [opEff, ho, e, if_neg hU, storeX] at hp ⊢; rw [e] at hx; unfold repA at hx; exact vC5 h ho ht hx hy hp
 by_cases hg : ∀ id sz i off, av x = .one (.ep id sz i off) → isG (m id) = false
 · exact oC8 h hU hg (fun fid i sz k off e => hq ⟨fid, i, sz, k, off, e⟩) ho ht hx hy hp
 · have hg : ∃ id sz i off, av x = .one (.ep id sz i off) ∧ isG (m id) = true := by
    apply Classical.byContradiction; intro hne; refine hg fun id sz i off e => ?_
    cases hq : isG (m id) with
    | false => rfl
    | true => exact absurd ⟨id, sz, i, off, e, hq⟩ hne
   obtain ⟨id, sz, i, off, e, hq⟩ := hg; simp only [opEff, ho, e, if_neg hU, storeX, hq, if_true] at hp ⊢; rw [e] at hx; unfold repA at hx
   cases hm : m id with
   | rowg e t' p fid xs hole =>
     rw [hm] at hp
     cases hole with
     | none =>
       simp only [storeG] at hp ⊢; split at hp
       · rename_i r hav; split at hp
         · rename_i hc; rw [if_pos hc]; obtain ⟨rfl, rfl, hs⟩ := hc; unfold backG at hp ⊢; split at hp
           · rename_i e2 u xss e' u' zs0 hf hr; split at hp
             · rename_i zs hzs; split at hp
               · rename_i hee
                 try simp only [hzs]
                 rw [if_pos hee]; subst hee; obtain ⟨hh, rfl⟩ := aA1 hzs; subst hh; obtain ⟨hij, hj⟩ := hp; rw [hav] at hy; unfold repA repC at hy; unfold repC at hx; obtain ⟨hn, b, n, c, e1, e2⟩ := hx; simp only [rx] at e1 hn hy; have htt := TI.of_ok ht t (wA6 (by omega)); obtain ⟨ii, hii, hsi, _⟩ := htt.info; obtain ⟨w', hrun, hres⟩ := sB6 (P := P) (fr := fr) (t1 := t) (ii := ii) (pr := i = (i.toNat : Int) ∧ i.toNat < xs.length) (q := True) h hfr0 (.inl rfl) hn hy.1 hm hf hr hj e1 hii (by omega) trivial; refine lA2 (w' := w') ?_ hres; rw [← hy.2] at hrun; simp only [execOp, ho, Instr.storeAt, Instr.sureAddr, e2, Sem.run_bind, Sem.run_pure, Result.andThen_ok, hrun]
               · exact hp.elim
             · exact hp.elim
           · exact hp.elim
         · exact hp.elim
       · exact gD3 h ho ht hm hx hy hp
     | some j =>
       simp only [storeG] at hp ⊢; split at hp
       · rename_i r hav; split at hp
         · rename_i hc; rw [if_pos hc]; obtain ⟨rfl, rfl, hs⟩ := hc; unfold backG at hp ⊢; split at hp
           · rename_i e2 u xss e' u' zs0 hf hr; split at hp
             · rename_i zs hzs; split at hp
               · rename_i hee
                 try simp only [hzs]
                 rw [if_pos hee]; subst hee; obtain ⟨hh, rfl⟩ := aA1 hzs; subst hh; obtain ⟨hij, hj⟩ := hp; rw [hav] at hy; unfold repA repC at hy; unfold repC at hx; obtain ⟨hn, b, n, c, e1, e2⟩ := hx; simp only [rx] at e1 hn hy; have htt := TI.of_ok ht t (wA6 (by omega)); obtain ⟨ii, hii, hsi, _⟩ := htt.info; obtain ⟨w', hrun, hres⟩ := sB6 (P := P) (fr := fr) (t1 := t) (ii := ii) (pr := i = (j : Int) ∧ j < xs.length) (q := True) h hfr0 (.inr rfl) hn hy.1 hm hf hr hj e1 hii (by omega) trivial; have hi2 : i.toNat = j := by omega
                 refine lA2 (w' := w') ?_ hres; rw [hi2] at e2; rw [← hy.2] at hrun; simp only [execOp, ho, Instr.storeAt, Instr.sureAddr, e2, Sem.run_bind, Sem.run_pure, Result.andThen_ok, hrun]
               · exact hp.elim
             · exact hp.elim
           · exact hp.elim
         · exact hp.elim
       · exact hp.elim
   | _ => rw [hm] at hq; cases hq
end
end Go.Ev

namespace Go.Ev
section
variable {cx : Cx} {σ : Nat → Value} {N : Nat → Prop} {m : Mem} {w : World} {P : Program} {T : Tab} {G : Env} {o : Oper} {fr : Nat} {ρ : Operand → Value} {av : Operand → AV}
theorem aB3 {t e : TypeId} {y : Operand} {k : Nat} {i : TypeInfo} {z : Value} (ho : o.op = .buildSlice t 1 #[(0, y)]) (hu : P.underlying t = some (.slice e)) (hi : P.info? e = some i) (hz : i.zero = some z) (hl : (ρ y).cells.size = i.size) (h0 : 0 < i.size) (h16 : i.size ≤ 16777216) :
 (execOp ρ o).run P w = .ok (.value (.slice (some ⟨w.heap.size, 0, none⟩) 1 1)) (w.alloc (.cells (ρ y).cells.toList.toArray e)) := by
 have hfill := sB1 (size := i.size) (by omega) [ρ y] 0 [] ((Array.range (1 * i.size)).map (z.cells[· % z.cells.size]!)).toList (by simp) (by simp) (fun v hv => by simp at hv; rw [hv]; simp [hl]); rw [List.nil_append, List.nil_append, Array.toArray_toList] at hfill; have hpe := vA7 (fun _ => ρ y) [(0, y)] 0 (by simp [List.range']); simp [execOp, ho, Instr.buildSlice, run_underlying hu, tA0 hi, show ¬ (i.size = 0) by omega, show ¬ (2 ^ 24 < i.size) by omega, wA0 hi hz, newRow]; simp [List.range, List.range.loop] at hfill
 try simp [hfill]
theorem gB4 {x : Rx} : ∀ (cs : List C1) (vs : List Value) (p : Nat) (c : C1) (v : Value), repCs x cs vs → repC x c v → repCs x (cs.set p c) (vs.set p v)
 | [], vs, p, c, v, h, _ => by rw [repCs_nil.1 h]; simp; exact repCs_nil.2 rfl
 | a :: cs, vs, 0, c, v, h, k => by
   obtain ⟨u, r, rfl, h1, h2⟩ := repCs_cons.1 h
   exact repCs_cons.2 ⟨v, r, rfl, k, h2⟩
 | a :: cs, vs, p + 1, c, v, h, k => by
   obtain ⟨u, r, rfl, h1, h2⟩ := repCs_cons.1 h; exact repCs_cons.2 ⟨u, r.set p v, rfl, h1, gB4 cs r p c v h2 k⟩
theorem tB7 {x : Rx} : ∀ (cs : List C1) (vs : List Value) (p : Nat) (c : C1), repCs x cs vs → cs[p]? = some c → ∃ v, vs[p]? = some v ∧ repC x c v
 | [], _, p, c, _, h => by simp at h
 | a :: cs, vs, 0, c, h, k => by
   obtain ⟨u, r, rfl, h1, h2⟩ := repCs_cons.1 h; simp at k; subst k
   exact ⟨u, rfl, h1⟩
 | a :: cs, vs, p + 1, c, h, k => by
   obtain ⟨u, r, rfl, h1, h2⟩ := repCs_cons.1 h; obtain ⟨v, h3, h4⟩ := tB7 cs r p c h2 (by simpa using k); exact ⟨v, by simpa using h3, h4⟩
theorem oD5 (h : RepM cx σ N m w) (hfr : ∀ id, fr ≤ id → id < fr + 32 → N id) {t e : TypeId} {len : Nat} {parts : Array (Nat × Operand)} {md : Nat} (ho : o.op = .buildSlice t len parts) (ht : TabOK P T) (hd : (TI.of T t).desc = .slice e) {a : AV}
 (hav : (parts.toList.map (·.2)).map av = [a]) (hx : ∀ x ∈ parts.toList.map (·.2), repA (rx cx σ N m w) (av x) (ρ x)) (hq : seqIdx (parts.toList.map (·.1)) len (TI.of T e).size 1 = true) (hp : (bsG T md fr e m a).pre) : Runs P w (Res cx σ N m w fr (bsG T md fr e m a)) ((execOp ρ o).run P w) := by
 obtain ⟨y, hy⟩ : ∃ y, parts.toList.map (·.2) = [y] := by
  match hh : parts.toList.map (·.2), hav with
  | [y], _ => exact ⟨y, hh⟩
  | [], hav => rw [hh] at hav; cases hav
  | _ :: _ :: _, hav => rw [hh] at hav; cases hav
 unfold seqIdx at hq; obtain ⟨c1, c2, c3⟩ := of_decide_eq_true hq; subst c3; have hpar : parts = #[(0, y)] := by
  have h1 : parts.toList.map (·.1) = [0] := by rw [c1]; rfl
  have : parts.toList = [(0, y)] := by
   match hh : parts.toList, h1, hy with
   | [(a, b)], h1, hy => simp at h1 hy; rw [h1, hy]
   | [], h1, _ => cases h1
   | _ :: _ :: _, h1, _ => simp at h1
  rw [← Array.toArray_toList (xs := parts), this]
 have hy1 := hx y (by rw [hy]; simp); rw [hy] at hav; have hav : av y = a := by simpa using hav
 rw [hav] at hy1; subst hpar; unfold bsG at hp ⊢; split at hp
 · rename_i u hty; split at hp
   · rename_i p v hsl; split at hp
     · rename_i hc; rw [if_pos hc]; obtain ⟨hl, hka, hro⟩ := hc; have hu := (TI.of_ok ht t (fun e => by rw [e] at hd; cases hd)).slice e hd; have hte := TI.of_ok ht e (fun k => by rw [k] at hty; cases hty); obtain ⟨i, hi, hs, hby, z, hz, hzs, _⟩ := hte.info; obtain ⟨hun, hpos, _⟩ := hte.ty u hty; have hne : a.cells ≠ [] := fun e => by rw [e] at hl; simp at hl; omega
       have hac := fA3 (x := rx cx σ N m w) h.hone hy1 hka hne; have hal := jA0 _ _ hac; have h1a := mA2 h.hone _ _ hka hac; have hplt := mB2 hsl; have hrun := aB3 (k := 0) (w := w) ho hu hi hz (by rw [← Array.length_toList, hal, hl, hs]) (by omega) (by omega); have hlen : (ρ y).cells.toList.length = u.n := by rw [hal, hl]; exact hun.symm
       have hcp : a.cells[p]? = some (a.cells.getD p .undef) := by rw [List.getD_eq_getElem?_getD, List.getElem?_eq_getElem (by omega)]; rfl
       obtain ⟨v0, hv0, hrv⟩ := tB7 _ _ p _ hac hcp; have hno : ∀ cs : List C1, rowsOf cs = [] → ∀ id ∈ rowsOf cs, own (m id) = false := fun cs hcs id hid => by rw [hcs] at hid; cases hid
       have mk : ∀ (r : Option Nat) (ys : List v.den) (x : u.den), (∀ i, r = some i → own (m i) = true ∧ ¬ N i) → famRep (rx cx σ N m w) (md - 8) v [ys] [v0] → (∀ b, blkOf v0 = some b → ∃ i, r = some i ∧ hb (σ i) b) → ro w (Owned cx σ m) u x ((ρ y).cells.toList.set p (.slice none 0 0)) →
        Res cx σ N m w fr ⟨True, .one (.row fr), killH r ++ [(fr + 1, .fam (md - 8) v [ys]), (fr, .rowg e u p (fr + 1) [x] none)], True⟩ (.slice (some ⟨w.heap.size, 0, none⟩) 1 1) (w.alloc (.cells (ρ y).cells.toList.toArray e)) := by
        intro r ys x hr hfam hbv hro'; refine oB2 (cx := cx) (σ := σ) (m := m) (w := w) (r := r) (vs := [v0]) (v := .slice (some ⟨w.heap.size, 0, none⟩) 1 1) (flat := (ρ y).cells.toList) h hfr hr hfam (fun q hq b hb => by simp at hq; rw [hq] at hb; exact hbv b hb) rfl (fun b hb => by rw [hb_slice, gA0 (by omega)] at hb; simp at hb; omega)
         (oA1 w (.cells (ρ y).cells.toList.toArray e)) rfl (bA4 (by simpa using hlen) (heap_alloc_new w _) (Nat.le_refl _) (by simp [maxLen]) (by simp only [List.size_toArray, Nat.one_mul]; exact hlen) (by rw [List.take_of_length_le (by simp only [List.toList_toArray, List.length_singleton, Nat.one_mul]; omega)])) ?_ (fun x h1 h2 => by unfold repA repC; exact ⟨h1, h2.symm⟩) trivial
        exact ⟨(ρ y).cells.toList, [], by simp, ⟨by omega, fun q hq => by cases hq; exact hv0, h1a, hro'⟩, rfl⟩
       unfold oneG at hp ⊢; split at hp
       · rename_i hnil; rw [hnil] at hrv hcp; unfold repC at hrv; subst hrv; split at hp
         · rename_i x him; refine bA0 hrun ?_; have hcs : a.cells.set p .nilsl = a.cells := by
            apply List.ext_getElem?; intro j; rw [List.getElem?_set]; split
            · rename_i e; subst e; rw [if_pos (by omega)]; exact hcp.symm
            · rfl
           rw [hcs] at hro; have hset : (ρ y).cells.toList.set p (.slice none 0 0) = (ρ y).cells.toList := by
            apply List.ext_getElem?; intro j; rw [List.getElem?_set]; split
            · rename_i e; subst e; rw [if_pos (by omega)]; exact hv0.symm
            · rfl
           exact mk none [] x (fun i e => by cases e) (fA7 1) (fun b hb => by cases hb) (by rw [hset]; exact rA2 h u _ _ _ him hac (hno _ hro))
         · exact hp.elim
       · rename_i r hcr; rw [hcr] at hrv; unfold repC at hrv; obtain ⟨hnr, rfl⟩ := hrv; simp only [rx] at hnr; split at hp
         · rename_i e' u' ys0 hm; split at hp
           · rename_i x ys him hcast; split at hp
             · rename_i hee; rw [if_pos hee]; subst hee; obtain ⟨hh, rfl⟩ := aA1 hcast; subst hh; refine bA0 hrun ?_; have hb := h.blk r; rw [hm] at hb; obtain ⟨n0, fl, rfl, d1, d2⟩ := hb; simp only [rx] at d1 d2; have hnil : repC (rx cx σ N m w) .nilsl (.slice none 0 0) := by unfold repC; rfl
               exact mk (some r) ys0 x (fun i e => by cases e; exact ⟨by rw [hm]; rfl, hnr⟩) (bB9 (h.hone r) d1 d2) (fun b hb => ⟨r, rfl, .inl hb⟩) (rA2 h u _ _ _ him (gB4 _ _ p _ _ hac hnil) (hno _ hro))
             · exact hp.elim
           · exact hp.elim
         · exact hp.elim
       · exact hp.elim
     · exact hp.elim
   · exact hp.elim
 · exact hp.elim
end
end Go.Ev

namespace Go.Ev
section
variable {cx : Cx} {σ : Nat → Value} {N : Nat → Prop} {m : Mem} {w : World} {P : Program} {T : Tab} {G : Env} {o : Oper} {fr : Nat} {ρ : Operand → Value} {av : Operand → AV}
theorem mB6 {st ty e : TypeId} {i : TypeInfo} {z : Value} {s : Nat} (hst : P.underlying st = some (.slice e)) (hi : P.info? e = some i) (hz : i.zero = some z) (hzs : z.cells.size = i.size) (hsz : i.size = s) (hpos : 0 < s)
 {vb vx : Value} {n k : Nat} {flat flatx : List Value} (kb : RowR w e s vb n flat) (kx : RowR w e s vx k flatx) (h1 : ∀ u ∈ flatx, u.oneCell' = true) (hk : 0 < k) (hb : (n + k) * i.bytes ≤ 140737488355328) (hm63 : n + k ≤ maxLen) :
 ∃ r w', (Builtin.append_ #[st, st] ty #[vb, vx]).run P w = .ok r w' ∧ r.oneCell' = true ∧ (∃ a n c, r = .slice a n c) ∧ RowR w' e s r (n + k) (flat ++ flatx) ∧ (∀ b, b < w.heap.size → blkOf vb ≠ some b → w'.heap[b]? = w.heap[b]?) ∧
   (∀ b, blkOf r = some b → w.heap.size ≤ b ∨ blkOf vb = some b) ∧ w'.os = w.os ∧ w'.tape = w.tape ∧ w'.output = w.output ∧ w.heap.size ≤ w'.heap.size ∧ w.drawn ≤ w'.drawn := by
 obtain ⟨hlx, kx2⟩ := kx
 rcases kx2 with ⟨q, _⟩ | ⟨gx, capx, curx, hzx, rfl, hgx, hlcx, hcmx, hcsx, htkx⟩
 · omega
 have hcx : ∀ j u, flatx[j]? = some u → w.cell? ⟨gx, 0 + j, none⟩ = some u := fun j u hu => by
  rw [Nat.zero_add]; exact hA1 (e := e) (size := s) (n := k) (v := .slice (some ⟨gx, 0, none⟩) k capx) ⟨hlx, .inr ⟨gx, capx, curx, hzx, rfl, hgx, hlcx, hcmx, hcsx, htkx⟩⟩ (gA0 hzx) j u hu
 obtain ⟨hl, kb2⟩ := kb; have h63 : ((n + k : Nat) : Int) ≤ 9223372036854775807 := by simp only [maxLen] at hm63; omega
 have fin : ∀ old, old < n + k → RowR (w.drew.alloc (.cells (flat.toArray ++ flatx.toArray ++ Builtin.zeroCells z.cells (grownCap w (n + k) old e - (n + k))) e)) e s (.slice (some ⟨w.heap.size, 0, none⟩) (n + k) (grownCap w (n + k) old e)) (n + k) (flat ++ flatx) := by
  intro old ho; have hge := grownCap_ge w (n + k) old e; have hcm := grownCap_le_maxLen w (n + k) old e hm63; have hlen : (flat ++ flatx).length = (n + k) * s := by rw [List.length_append, hl, hlx, Nat.add_mul]
  refine bA4 hlen (heap_alloc_new w.drew _) hge hcm ?_ ?_
  · simp only [Array.size_append, List.size_toArray, size_zeroCells, hzs, hl, hlx, hsz, ← Nat.add_mul]; congr 1; omega
  · rw [← hlen]; simp only [Array.toList_append, List.append_assoc]; rw [← List.append_assoc]; exact List.take_left
 have hgw := fun old => sA7 w (.cells (flat.toArray ++ flatx.toArray ++ Builtin.zeroCells z.cells (grownCap w (n + k) old e - (n + k))) e); have out : ∀ old, old < n + k → ∀ run, run = Result.ok (Value.slice (some ⟨w.heap.size, 0, none⟩) (n + k) (grownCap w (n + k) old e)) (w.drew.alloc (.cells (flat.toArray ++ flatx.toArray ++ Builtin.zeroCells z.cells (grownCap w (n + k) old e - (n + k))) e)) →
  ∃ r w', run = .ok r w' ∧ r.oneCell' = true ∧ (∃ a n c, r = .slice a n c) ∧ RowR w' e s r (n + k) (flat ++ flatx) ∧ (∀ b, b < w.heap.size → blkOf vb ≠ some b → w'.heap[b]? = w.heap[b]?) ∧
  (∀ b, blkOf r = some b → w.heap.size ≤ b ∨ blkOf vb = some b) ∧ w'.os = w.os ∧ w'.tape = w.tape ∧ w'.output = w.output ∧ w.heap.size ≤ w'.heap.size ∧ w.drawn ≤ w'.drawn := by
  intro old ho run hr; refine ⟨_, _, hr, rfl, ⟨_, _, _, rfl⟩, fin old ho, fun b hb _ => (hgw old).1 b hb, fun b hbb => ?_, (hgw old).2.1, (hgw old).2.2.1, (hgw old).2.2.2.1, (hgw old).2.2.2.2.1, (hgw old).2.2.2.2.2⟩; have hge := grownCap_ge w (n + k) old e; rw [gA0 (by omega)] at hbb; simp only [Option.some.injEq] at hbb; exact .inl (by omega)
 rcases kb2 with ⟨rfl, a0, rfl⟩ | ⟨g, cap, cur, hz0, rfl, hg, hlc, hcm, hcs, htk⟩
 · have hf0 : flat = [] := List.eq_nil_of_length_eq_zero (by rw [hl, Nat.zero_mul]); subst hf0
   cases a0 with
   | none =>
     have hr := run_append_nil (P := P) w st ty e i z hst hi hz ⟨gx, 0, none⟩ k capx flatx (by rw [hlx, hsz]) (fun j v hv => by rw [oA0]; exact hcx j v hv) hk (by omega) (by rw [Nat.zero_add] at hb; omega); refine out 0 (by omega) _ ?_; rw [hr]
     simp
   | some ab =>
     have hr := run_append_grow (P := P) w st ty e i z hst hi hz ab 0 0 [] (by simp) (fun j v hv => by simp at hv) ⟨gx, 0, none⟩ k capx flatx (by rw [hlx, hsz]) (fun j v hv => by rw [oA0]; exact hcx j v hv) (by omega) h63 (growslice_fits (by omega) hb); exact out 0 (by omega) _ hr
 · by_cases hroom : n + k ≤ cap
   · have hcz : cur.size = cur.toList.length := by simp
     have hfit : n * i.size + flatx.length ≤ cur.size := by
      rw [hlx, hcs, hsz, ← Nat.add_mul]; exact Nat.mul_le_mul_right _ hroom
     have hr := run_append_room (P := P) w st ty e i hst hi g n cap cur hg ⟨gx, 0, none⟩ k capx flatx (by rw [hlx, hsz]) (fun j v hv => by rw [oA0]; exact hcx j v hv) h1 hroom hfit; refine ⟨_, _, hr, rfl, ⟨_, _, _, rfl⟩, ?_, fun b _ hb => setRow_other w g b _ (fun e => hb (by rw [e]; exact gA0 hz0)), fun b hbb => .inr (by rw [gA0 hz0] at hbb ⊢; exact hbb), rfl, rfl, rfl, by simp, Nat.le_refl _⟩; have hlen : (n + k) * s = (flat ++ flatx).length := by rw [List.length_append, hl, hlx, Nat.add_mul]
     refine ⟨hlen.symm, .inr ⟨g, cap, _, hz0, rfl, setRow_heap w g cur _ e (0, 0) hg, hroom, hcm, ?_, ?_⟩⟩
     · rw [← hcs, List.size_toArray, List.length_append, List.length_append, List.length_take, List.length_drop]; omega
     · rw [hlen, hsz, htk]; show List.take _ (flat ++ flatx ++ _) = _; exact List.take_left
   · have hr := run_append_grow (P := P) w st ty e i z hst hi hz ⟨g, 0, none⟩ n cap flat (by rw [hl, hsz]) (fun j v hv => by rw [oA0, Nat.zero_add]; exact hA1 (e := e) (size := s) (n := n) (v := .slice (some ⟨g, 0, none⟩) n cap) ⟨hl, .inr ⟨g, cap, cur, hz0, rfl, hg, hlc, hcm, hcs, htk⟩⟩ (gA0 hz0) j v hv) ⟨gx, 0, none⟩ k capx flatx (by rw [hlx, hsz]) (fun j v hv => by rw [oA0]; exact hcx j v hv) (by omega) h63 (growslice_fits (by omega) hb); exact out cap (by omega) _ hr
theorem pD3 (h : RepM cx σ N m w) (hfr : ∀ id, fr ≤ id → id < fr + 32 → N id) (ht : TabOK P T) {st ty e : TypeId} {b : C1} {id2 p fid2 : Nat} {t : Ty} {ys : List t.den} {vb vx : Value} (hd : (TI.of T st).desc = .slice e) (hty : (TI.of T e).ty = some t) (hm2 : m id2 = .rowg e t p fid2 ys none) (hn2 : ¬ N id2) (hvx : vx = σ id2)
 (hb : repC (rx cx σ N m w) b vb) (hp : (catG T fr id2 e t p fid2 ys (m fid2) m b).pre) :
 ∃ r w', (Builtin.append_ #[st, st] ty #[vb, vx]).run P w = .ok r w' ∧ Res cx σ N m w fr (catG T fr id2 e t p fid2 ys (m fid2) m b) r w' := by
 have hst := (TI.of_ok ht st (fun k => by rw [k] at hd; cases hd)).slice e hd; have hte := TI.of_ok ht e (fun k => by rw [k] at hty; cases hty); obtain ⟨ii, hii, hs, hby, z, hz, hzs, _⟩ := hte.info; obtain ⟨hun, hpos, hbp⟩ := hte.ty t hty; unfold catG at hp ⊢; split at hp
 · rename_i id; unfold repC at hb; obtain ⟨hn, hvb⟩ := hb; simp only [rx] at hn hvb; split at hp
   · rename_i e' t' p' fid xs hm; split at hp
     · rename_i e2 u xss e3 u3 yss hf hf2; split at hp
       · rename_i hc; rw [dif_pos hc]; obtain ⟨rfl, rfl, rfl, rfl, rfl, hne, hnf⟩ := hc; simp only at hp ⊢; obtain ⟨hy0, hbd⟩ : 0 < ys.length ∧ (xs.length + ys.length) * (TI.of T e').bytes ≤ 140737488355328 := hp; have hbid := h.blk id; rw [hm] at hbid; obtain ⟨f, vs, flat, b1, b2, b3, b4, b5⟩ := hbid; simp only [rx] at b1 b2 b4; have hbid2 := h.blk id2; rw [hm2] at hbid2; obtain ⟨f', vs', flatx, b1', b2', b3', b4', b5'⟩ := hbid2; simp only [rx] at b1' b2' b4'; have hbf := h.blk fid; rw [hf] at hbf; obtain ⟨f0, vs0, c1, c2⟩ := hbf; simp only [rx] at c1; rw [b2] at c1; cases c1; have hbf2 := h.blk fid2; rw [hf2] at hbf2; obtain ⟨f1, vs1, c1', c2'⟩ := hbf2; simp only [rx] at c1'; rw [b2'] at c1'; cases c1'; have hone' : ∀ q ∈ flatx, q.oneCell' = true := fun q hq => sA5 _ _ b5' (fun x c hh => hh.2.2.1) q hq; have hbound : xs.length + ys.length ≤ maxLen := by
          have := Nat.le_mul_of_pos_right (xs.length + ys.length) hbp; simp only [maxLen]; omega
         obtain ⟨r, w', hrun, r1, r2, r3, r4, r5, r6, r7, r8, r9, r10⟩ := mB6 (P := P) (ty := ty) hst hii hz (by omega) (by omega) (by omega) b4 b4' hone' hy0 (by rw [hby]; exact hbd) hbound; refine ⟨r, w', by rw [hvb, hvx]; exact hrun, ?_⟩; have n0 : N fr := hfr fr (by omega) (by omega); have n1 : N (fr + 1) := hfr (fr + 1) (by omega) (by omega); have oid : own (m id) = true := by rw [hm]; rfl
         have oid2 : own (m id2) = true := by rw [hm2]; rfl
         have ofid : own (m fid) = true := by rw [hf]; rfl
         have ofid2 : own (m fid2) = true := by rw [hf2]; rfl
         have d1 : id ≠ fr := fun k => hn (k ▸ n0); have d2 : id ≠ fr + 1 := fun k => hn (k ▸ n1); have d3 : id2 ≠ fr := fun k => hn2 (k ▸ n0); have d4 : id2 ≠ fr + 1 := fun k => hn2 (k ▸ n1); have d5 : fid ≠ fr := fun k => b1 (k ▸ n0); have d6 : fid ≠ fr + 1 := fun k => b1 (k ▸ n1); have d7 : fid2 ≠ fr := fun k => b1' (k ▸ n0); have d8 : fid2 ≠ fr + 1 := fun k => b1' (k ▸ n1); have d9 : fr + 1 ≠ fr := by omega
         have g1 : id ≠ fid := fun k => by rw [k, hf] at hm; cases hm
         have g2 : id ≠ fid2 := fun k => by rw [k, hf2] at hm; cases hm
         have g3 : id2 ≠ fid := fun k => by rw [k, hf] at hm2; cases hm2
         have g4 : id2 ≠ fid2 := fun k => by rw [k, hf2] at hm2; cases hm2
         let m' : Mem := upd (upd (upd (upd (upd (upd m id2 .dead) fid2 .dead) id .dead) fid .dead) (fr + 1) (.fam e3 u3 (xss ++ yss))) fr (.rowg e' t' p' (fr + 1) (xs ++ ys) none)
         let σ' : Nat → Value := upd (upd σ (fr + 1) (.func (.func 0) #[] (vs.toList ++ vs'.toList).toArray)) fr r
         have m0 : m' fr = .rowg e' t' p' (fr + 1) (xs ++ ys) none := upd_same _ _ _; have m1 : m' (fr + 1) = .fam e3 u3 (xss ++ yss) := by simp only [m']; rw [iA0 _ _ d9, upd_same]
         have m2 : ∀ i, (i = id ∨ i = id2 ∨ i = fid ∨ i = fid2) → m' i = .dead := fun i hi => by
          simp only [m']
          rw [iA0 _ _ (by rcases hi with e | e | e | e <;> rw [e] <;> assumption), iA0 _ _ (by rcases hi with e | e | e | e <;> rw [e] <;> assumption)]; by_cases q1 : i = fid
          · rw [q1, upd_same]
          · rw [iA0 _ _ q1]; by_cases q2 : i = id
            · rw [q2, upd_same]
            · rw [iA0 _ _ q2]; by_cases q3 : i = fid2
              · rw [q3, upd_same]
              · rw [iA0 _ _ q3]
                have : i = id2 := by rcases hi with e | e | e | e <;> first | exact e | contradiction
                rw [this, upd_same]
         have m3 : ∀ i, i ≠ id → i ≠ id2 → i ≠ fid → i ≠ fid2 → i ≠ fr → i ≠ fr + 1 → m' i = m i := fun i h1 h2 h3 h4 h5 h6 => by
          simp only [m']; rw [iA0 _ _ h5, iA0 _ _ h6, iA0 _ _ h3, iA0 _ _ h1, iA0 _ _ h4, iA0 _ _ h2]
         have s0 : σ' fr = r := upd_same _ _ _; have s1 : σ' (fr + 1) = .func (.func 0) #[] (vs.toList ++ vs'.toList).toArray := by simp only [σ']; rw [iA0 _ _ d9, upd_same]
         have s2 : ∀ i, i ≠ fr → i ≠ fr + 1 → σ' i = σ i := fun i h1 h2 => by simp only [σ']; rw [iA0 _ _ h1, iA0 _ _ h2]
         have kfam : ∀ b, hb (σ' (fr + 1)) b → hb (σ fid) b ∨ hb (σ fid2) b := fun b hbb => by
          rw [s1, hb_fam] at hbb; obtain ⟨q, hq, hqb⟩ := hbb; simp only [List.toList_toArray, List.mem_append] at hq
          rcases hq with hq | hq
          · exact .inl (by rw [b2]; exact hb_fam.2 ⟨q, hq, hqb⟩)
          · exact .inr (by rw [b2']; exact hb_fam.2 ⟨q, hq, hqb⟩)
         have hbr : ∀ b, hb r b → blkOf r = some b := fun b hbb => by
          obtain ⟨a, n, c, e⟩ := r2; rw [e] at hbb ⊢; exact hb_slice.1 hbb
         have krow : ∀ b, hb (σ' fr) b → w.heap.size ≤ b ∨ hb (σ id) b := fun b hbb => by
          rw [s0] at hbb; exact (r5 b (hbr b hbb)).imp (fun k => k) (fun k => .inl k)
         have hlt : ∀ i b, own (m i) = true → hb (σ i) b → b < w.heap.size := fun i b ho hbb => xA3 (h.blk i) ho b hbb; have kx : ∀ b, hb (σ' fr) b → hb (σ' (fr + 1)) b → False := fun b h1 h2 => by
          rcases krow b h1 with k1 | k1 <;> rcases kfam b h2 with k2 | k2
          · have := hlt fid b ofid k2; omega
          · have := hlt fid2 b ofid2 k2; omega
          · exact g1 (h.inj _ _ b oid ofid k1 k2)
          · exact g2 (h.inj _ _ b oid ofid2 k1 k2)
         have hkeepb : ∀ b, b < w.heap.size → ¬ hb (σ id) b → w'.heap[b]? = w.heap[b]? := fun b h1 h2 => r4 b h1 (fun e => h2 (.inl e)); have hfb : ∀ q b, q ∈ vs.toList → blkOf q = some b → hb (σ fid) b := fun q b hq hqb => by rw [b2]; exact hb_fam.2 ⟨q, hq, hqb⟩
         have hfb2 : ∀ q b, q ∈ vs'.toList → blkOf q = some b → hb (σ fid2) b := fun q b hq hqb => by rw [b2']; exact hb_fam.2 ⟨q, hq, hqb⟩
         obtain ⟨k1, k2⟩ := h.step (σ' := σ') (N' := Nx N fr) (m' := m') (w' := w') (fun i => (i = id ∨ i = id2 ∨ i = fid ∨ i = fid2) ∨ i = fr ∨ i = fr + 1) (fun i k => k.1)
          (fun i k => by
            have h1 : i ≠ fr := fun e => k.2 ⟨by omega, by omega⟩; have h2 : i ≠ fr + 1 := fun e => k.2 ⟨by omega, by omega⟩; rw [m3 i (fun e => hn (e ▸ k.1)) (fun e => hn2 (e ▸ k.1)) (fun e => b1 (e ▸ k.1)) (fun e => b1' (e ▸ k.1)) h1 h2]; exact h.fresh i k.1)
          (fun i k => by simp only [not_or] at k; exact ⟨m3 i k.1.1 k.1.2.1 k.1.2.2.1 k.1.2.2.2 k.2.1 k.2.2, s2 i k.2.1 k.2.2⟩)
          (fun i k => s2 i (fun e => k (e ▸ n0)) (fun e => k (e ▸ n1)))
          (fun b hb0 hx => hkeepb b hb0 (fun hbb => hx id (.inl (.inl rfl)) oid hbb)) ⟨r9, r10⟩ r6 r7 r8
          (fun i b hi ho hbb => by
            rcases hi with hi | rfl | rfl
            · rw [m2 i hi] at ho; cases ho
            · rcases krow b hbb with k | k
              · exact .inl k
              · exact .inr ⟨id, .inl (.inl rfl), oid, k⟩
            · rcases kfam b hbb with k | k
              · exact .inr ⟨fid, .inl (.inr (.inr (.inl rfl))), ofid, k⟩
              · exact .inr ⟨fid2, .inl (.inr (.inr (.inr rfl))), ofid2, k⟩)
          (fun i i' b hi hi' ho ho' hb1 hb2 => by
            rcases hi with hi | rfl | rfl
            · rw [m2 i hi] at ho; cases ho
            · rcases hi' with hi' | rfl | rfl
              · rw [m2 _ hi'] at ho'; cases ho'
              · rfl
              · exact (kx b hb1 hb2).elim
            · rcases hi' with hi' | rfl | rfl
              · rw [m2 _ hi'] at ho'; cases ho'
              · exact (kx b hb2 hb1).elim
              · rfl)
          (fun i hi => by
            rcases hi with hi | rfl | rfl
            · rw [s2 i (by rcases hi with e | e | e | e <;> rw [e] <;> assumption) (by rcases hi with e | e | e | e <;> rw [e] <;> assumption)]; exact h.hone _
            · rw [s0]; exact r1
            · rw [s1]; rfl)
          (fun hk i hi => by
            rcases hi with hi | rfl | rfl
            · rw [m2 i hi]; trivial
            · rw [m0]; refine ⟨.func 0, _, flat ++ flatx, fun k => k.2 ⟨by omega, by omega⟩, s1, by simp only [List.toList_toArray, List.length_append]; omega, by simp only [rx]; rw [s0, List.length_append]; exact r3, ?_⟩; simp only [List.toList_toArray, holed, List.map_append]; rw [List.zip_append (by rw [List.length_map]; omega)]; exact fA0 (fA1 hk.k) _ _ (nA1 _ _ _ _ b5 b5')
            · rw [m1]; refine ⟨.func 0, _, s1, ?_⟩; simp only [List.toList_toArray]; have hl1 := c2.len; have hl2 := c2'.len; refine ⟨by simp only [List.length_append]; omega, fun i zs q h1 h2 => ?_, fun i j q q2 b h1 h2 h3 h4 => ?_⟩
              · rw [List.getElem?_append] at h1 h2; by_cases hi : i < xss.length
                · rw [if_pos hi] at h1; rw [if_pos (by omega)] at h2; obtain ⟨t1, fl, t2, t3⟩ := c2.row i zs q h1 h2; exact ⟨t1, fl, dA1 t2 (fun g hg => hkeepb g (hlt fid g ofid (hfb q g (List.mem_of_getElem? h2) hg)) (fun k => g1 (h.inj _ _ g oid ofid k (hfb q g (List.mem_of_getElem? h2) hg)))), fA0 (hA0 hk.k u3) _ _ t3⟩
                · rw [if_neg hi] at h1; rw [if_neg (by omega), hl1] at h2; obtain ⟨t1, fl, t2, t3⟩ := c2'.row _ zs q h1 h2; exact ⟨t1, fl, dA1 t2 (fun g hg => hkeepb g (hlt fid2 g ofid2 (hfb2 q g (List.mem_of_getElem? h2) hg)) (fun k => g2 (h.inj _ _ g oid ofid2 k (hfb2 q g (List.mem_of_getElem? h2) hg)))), fA0 (hA0 hk.k u3) _ _ t3⟩
              · rw [List.getElem?_append] at h1 h2; by_cases hi : i < vs.toList.length <;> by_cases hj : j < vs.toList.length
                · rw [if_pos hi] at h1; rw [if_pos hj] at h2; exact c2.inj i j q q2 b h1 h2 h3 h4
                · rw [if_pos hi] at h1; rw [if_neg hj] at h2; exact absurd (h.inj _ _ b ofid ofid2 (hfb q b (List.mem_of_getElem? h1) h3) (hfb2 q2 b (List.mem_of_getElem? h2) h4)) hnf
                · rw [if_neg hi] at h1; rw [if_pos hj] at h2; exact absurd (h.inj _ _ b ofid ofid2 (hfb q2 b (List.mem_of_getElem? h2) h4) (hfb2 q b (List.mem_of_getElem? h1) h3)) hnf
                · rw [if_neg hi] at h1; rw [if_neg hj] at h2; have := c2'.inj _ _ q q2 b h1 h2 h3 h4; omega)
         refine ⟨σ', k1, k2, ?_, trivial⟩; unfold repA repC; exact ⟨fun k => k.2 ⟨by omega, by omega⟩, s0.symm⟩
       · exact hp.elim
     · exact hp.elim
   · exact hp.elim
 · exact hp.elim
end
end Go.Ev
