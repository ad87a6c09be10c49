/- A law: its contract gives its row. -/
import Derived.Test.YtjhoidgpecgfoaaDoorDrKBToRow
import Derived.Test.YtjhoidgpecgfoaaDoorEvBox
import Derived.Test.YtjhoidgpecgfoaaDoorEvSimp
import Derived.Lib.LaidTab
import Derived.Test.YtjhoidgpecgfoaaDoorDrKOToKC
set_option linter.unusedSimpArgs false
set_option linter.unusedVariables false
namespace Go.Ev
open Go.RowKit Go.WideShapes Go.ChangeShapes

def lawPs (tys : List (Bool × Ty)) : List PK := tys.map fun p => .d p.1 p.2

/-- A law's contract: true. -/
def lawCon (tys : List (Bool × Ty)) (pre : dens (lawPs tys) → Prop) : Con := ⟨lawPs tys, [.d false .bool], pre, fun _ => (true, ()), id⟩

def szs : (tys : List (Bool × Ty)) → dens (lawPs tys) → Nat
 | [], _ => 0
 | p :: tys, x => sz p.2 x.1 + szs tys x.2

def tyBs (P : Program) : List TypeId → List (Bool × Ty) → Bool
 | [], [] => true
 | t :: ts, p :: tys => tyB P 20 t p.2 && (isAggB P t == p.1) && tyBs P ts tys
 | _, _ => false

theorem impl_expl (m : Mem) : ∀ (t : Ty) (y : t.den), impl m t (expl t y) = some y
 | .int k, n => by simp [impl, expl, implI]
 | .bool, b => rfl
 | .str, s => rfl
 | .unit, _ => rfl
 | .sl t, xs => by simp [impl, expl, implL, view, castTy_self]
 | .pair a b, p => by
   simp only [impl, expl]
   rw [List.take_append_of_le_length (by rw [expl_len]; omega), List.take_of_length_le (by rw [expl_len]; omega), List.drop_append_of_le_length (by rw [expl_len]; omega), List.drop_of_length_le (by rw [expl_len]; omega), List.nil_append]
   rw [impl_expl m a, impl_expl m b]
   rfl

section
variable {H : Type} {enc : TypeId × Value → H} {P : Program} {W : World} {B : DataW H → Nat} {BA : List (DataW H) → Nat}

theorem tyB_und {d : Nat} {t : TypeId} {u : Ty} (h : tyB P d t u = true) : ∃ de, P.underlying t = some de ∧ (match de with | .struct _ | .int _ | .bool | .string | .slice _ => True | _ => False) := by
 cases d with
 | zero => cases h
 | succ d =>
   simp only [tyB, Bool.and_eq_true] at h
   have h2 := h.2
   cases hu : P.underlying t with
   | none => rw [hu] at h2; cases h2
   | some de =>
     rw [hu] at h2
     refine ⟨de, rfl, ?_⟩
     cases de <;> first | trivial | (cases h2; done)

theorem val_rep (hB : Bulk B BA) {t : TypeId} {ag : Bool} {u : Ty} {v : Value} {d : DataW H} {ps : List MemPlace} {base : Nat} (hty : tyB P 20 t u = true) (hag : isAggB P t = ag) (hv : Value.okWide P W .any base t v)
 (h : DataW.Trod enc P W 0 (fun _ => true) true t v d ps) : ∃ y : u.den, repA ⟨W, fun _ => False, fun _ => .int .i64 0, fun _ => True⟩ (avOf ag (expl u y)) v ∧ sz u y ≤ B d ∧ Wf u y ∧ (ag = false → (expl u y).length = 1) := by
 obtain ⟨fuel, h⟩ := h
 obtain ⟨y, h1, h2⟩ := trod_ro hB fuel 20 t u _ _ hty h
 have h3 := expl_rep (x := ⟨W, fun _ => False, fun _ => .int .i64 0, fun _ => True⟩) u y _ h1
 have hl := repCs_len _ _ h3
 have hwf := ro_wf u y _ h1
 cases ag with
 | true =>
   refine ⟨y, ?_, h2, hwf, fun e => by cases e⟩
   have : ∃ cs, v = .agg cs := by
    unfold Value.okWide at hv
    unfold isAggB at hag
    cases hu : P.underlying t with
    | none => rw [hu] at hag; cases hag
    | some de =>
      rw [hu] at hv hag
      cases de <;> simp [aggB] at hag <;> (obtain ⟨cs, e, _⟩ := hv; exact ⟨cs, e⟩)
   obtain ⟨cs, rfl⟩ := this
   unfold avOf repA
   simp only [if_true]
   exact ⟨cs.toList, by simp, h3⟩
 | false =>
   have : v.cells.toList = [v] := by
    unfold Value.okWide at hv
    unfold isAggB at hag
    obtain ⟨de, hu, hde⟩ := tyB_und hty
    · rw [hu] at hv hag
      cases de <;> simp [aggB] at hag <;> simp only at hv hde <;> first
       | exact hde.elim
       | (unfold Cell.okWide Cell.ok at hv; rw [hu] at hv; cases v <;> first | rfl | exact False.elim hv)
   rw [this] at h3 hl
   refine ⟨y, ?_, h2, hwf, fun _ => by simpa using hl.symm⟩
   match hx : expl u y, hl with
   | [c], _ =>
     rw [hx] at h3
     obtain ⟨v', r, e, g1, _⟩ := repCs_cons.1 h3
     cases e
     unfold avOf repA
     simp only [Bool.false_eq_true, if_false]
     exact g1

/-- The arguments. -/
theorem args_rep (hB : Bulk B BA) : ∀ (ts : List TypeId) (tys : List (Bool × Ty)) (vs : List Value) (ds : List (DataW H)) (ps : List MemPlace) (base : Nat), tyBs P ts tys = true → DataW.TrodAll enc P W 0 (fun _ => true) true ts vs ds ps →
 (∀ (j : Nat) (t : TypeId) (v : Value), ts[j]? = some t → vs[j]? = some v → Value.okWide P W .any base t v) → ∃ (x : dens (lawPs tys)) (avs : List AV), repAs ⟨W, fun _ => False, fun _ => .int .i64 0, fun _ => True⟩ avs vs ∧ rds (fun _ => .dead) (lawPs tys) avs = some x ∧ pids (lawPs tys) avs = [] ∧ szs tys x ≤ BA ds ∧ pwf (lawPs tys) x
 | [], [], vs, ds, ps, base, _, h, _ => by
   obtain ⟨rfl, rfl, rfl⟩ := trodAll_nil h
   exact ⟨(), [], by unfold repAs; rfl, rfl, rfl, Nat.zero_le _, trivial⟩
 | [], _ :: _, _, _, _, _, h, _, _ => by cases h
 | _ :: _, [], _, _, _, _, h, _, _ => by cases h
 | t :: ts, (ag, u) :: tys, vs, ds, ps, base, hty, h, hv => by
   obtain ⟨v, vs, d, ds, p, q, rfl, rfl, rfl, h1, h2⟩ := trodAll_cons h
   simp only [tyBs, Bool.and_eq_true, beq_iff_eq] at hty
   obtain ⟨y, g1, g2, g3, g4⟩ := val_rep hB hty.1.1 hty.1.2 (hv 0 t v rfl rfl) h1
   obtain ⟨x, avs, k1, k2, k3, k4, k5⟩ := args_rep hB ts tys vs ds q base hty.2 h2 (fun j t v ht hj => hv (j + 1) t v (by simpa using ht) (by simpa using hj))
   refine ⟨(y, x), avOf ag (expl u y) :: avs, by unfold repAs; exact ⟨v, vs, rfl, g1, k1⟩, ?_, ?_, ?_, ⟨g3, k5⟩⟩
   · have : rd (fun _ => Blk.dead) (.d ag u) (avOf ag (expl u y)) = some y := by
      cases ag with
      | true => simp only [avOf, if_true, rd]; exact impl_expl _ u y
      | false =>
        have := g4 rfl
        match hx : expl u y, this with
        | [c], _ =>
          simp only [avOf, Bool.false_eq_true, if_false, rd]
          rw [← hx]; exact impl_expl _ u y
     show implP (rd _ (.d ag u) _) (rds _ (lawPs tys) avs) = _
     rw [this, k2]; rfl
   · show pid (.d ag u) (avOf ag (expl u y)) ++ pids (lawPs tys) avs = []
     have : pid (.d ag u) (avOf ag (expl u y)) = [] := by
      cases avOf ag (expl u y) with
      | one c => cases c <;> rfl
      | _ => rfl
     rw [this]; exact k3
   · rw [hB.cons]
     simp only [szs]
     omega

theorem trodAll_stays (hl : laidOutB P = true) {W' : World} {sp : Nat → Bool} : ∀ (ts : List TypeId) (vs : List Value) (ds : List (DataW H)) (ps : List MemPlace), (ts.all fun t => P.readableRec t && decide (t < P.types.size)) = true → DataW.TrodAll enc P W 0 (fun _ => true) true ts vs ds ps →
 (∀ p ∈ ps, W.sameAt W' p) → (∀ p ∈ ps, sp p.block = true) → DataW.TrodAll enc P W' 0 sp true ts vs ds ps
 | [], vs, ds, ps, _, h, _, _ => by obtain ⟨rfl, rfl, rfl⟩ := trodAll_nil h; exact trodAll_mk0
 | t :: ts, vs, ds, ps, hr, h, hs, hsp => by
   obtain ⟨v, vs, d, ds, p, q, rfl, rfl, rfl, h1, h2⟩ := trodAll_cons h
   simp only [List.all_cons, Bool.and_eq_true, decide_eq_true_eq] at hr
   exact ⟨p, q, WideElems.Trod_stays hl hr.1.1 hr.1.2 h1 (fun x hx => hs x (by simp [hx])) (fun x hx => hsp x (by simp [hx])),
    trodAll_stays hl ts vs ds q hr.2 h2 (fun x hx => hs x (by simp [hx])) (fun x hx => hsp x (by simp [hx])), rfl⟩

/-- THE ROW's POST: true; what was there is as it was. -/
theorem law_post {f : Func} {s : ChangeSpec} {apart fresh handsOn again : Bool} {W' : World} {args : Array Value} {ds gs : List (DataW H)} {before : List MemPlace} (hl : laidOutB P = true) (hr : (f.params.toList.all fun t => P.readableRec t && decide (t < P.types.size)) = true)
 {tb : TypeId} (hres : f.resultTypes = #[tb]) (htb : P.underlying tb = some .bool) (hvars : s.vars = []) (hsf : (s.fn H (ds ++ gs)).results = [.lit (.bool true)] ∧ (s.fn H (ds ++ gs)).args = ds ∧ (s.fn H (ds ++ gs)).vars = [])
 (hW : DataW.Whole enc P f.params.toList s.vars apart W args.toList ds gs before) (hb : Below W.heap.size W W') : s.post enc P f apart fresh handsOn again W args (.bool true) W' := by
 have hlt : ∀ p ∈ before, p.block < W.heap.size := fun p hp => hW.lt p hp
 obtain ⟨pa, pv, hA, hV, hps, hz, hn⟩ := hW
 rw [hvars] at hV
 obtain ⟨rfl, rfl⟩ := trodVars_none hV
 have hbe : before = pa := by rw [hps, List.append_nil]
 subst hbe
 have hargs : ∀ sp : Nat → Bool, (∀ p ∈ before, sp p.block = true) → DataW.TrodAll enc P W' 0 sp true f.params.toList args.toList ds before := fun sp hsp =>
  trodAll_stays hl _ _ _ _ hr hA (fun p hp => hb.same (hlt p hp)) hsp
 have hbool : ∀ (b : Nat) (sp : Nat → Bool) (hd : Bool), DataW.TrodAll enc P W' b sp hd f.resultTypes.toList ((Value.bool true).resultList f.resultTypes.size) (s.fn H (ds ++ [])).results [] := fun b sp hd => by
  rw [hsf.1, hres]; exact trodAll_cons_mk (shut_bool htb true) trodAll_mk0
 refine ⟨ds, [], before, [], before, [], ⟨before, [], hA, by rw [hvars]; rfl, by simp, hz, hn⟩, hbool _ _ _, ?_, ?_, ?_, fun _ => ?_⟩
 · rw [hsf.2.1]; exact hargs _ (fun p hp => by simpa using hlt p hp)
 · rw [hvars, hsf.2.2]; rfl
 · exact World.keptBut_mono (fun p hp => ⟨hp, .inr (by simpa using hp)⟩) (hb.frame (· ∈ before))
 · refine ⟨ok_one hres rfl (okWide_bool_mk htb true), _, [], [] ++ before, ⟨[] ++ before, [], trodAll_append (hargs _ (fun _ _ => rfl)) (hbool _ _ _), by rw [hvars]; rfl, by simp, fun b off hp => ?_, fun ha => by simpa using hn ha⟩, fun p hp _ => by simpa using hp⟩
   have hp' : MemPlace.cell b off ∈ before := by simpa using hp
   rw [hb.frozen (hlt _ hp')]
   exact hz b off hp'

end
end Go.Ev

/- Contracts of functions that read a package's variables. -/
set_option linter.unusedSimpArgs false
set_option linter.unusedVariables false
namespace Go.Ev
section
variable {P : Program} {T : Tab} {G : Env}
theorem con_soundG (ht : TabOK P T) {gl : GVs} (hG : EnvG gl P G) (hm : P.follows .mixedOrders = true) {f : FuncId} {fn : Func} {c : Code} (hf : P.funcs[f]? = some fn) (hb : fn.body = some c) (C : Con) (ks : Nat)
 (hfine : fineC fn.ntmps c = true) (hn : pcOk C.ps = true) (hn2 : C.ps.length ≤ fn.ntmps) (hr : C.rs.length = fn.results.size) (hr4 : fn.results.size ≤ 4) (hv : rvalid C.rs = true)
 (h : ∀ x, C.pre x → pwf C.ps x → ∀ X : Wk, X.T = T → X.G = G → X.ks = ks → X.K = C.post T fn.results.toList x → evk X c (pslots 0 C.ps x) (pheap 0 C.ps x) 32 []) : CtrG gl P f C.ctr := by
 intro D gv hDS hgl cx hcd σ N m w fr avs vs hM hfr hreps hp
 unfold Con.ctr Con.effO at hp ⊢
 cases hrd : rds m C.ps avs with
 | none => rw [hrd] at hp; exact hp.elim
 | some x =>
   rw [hrd] at hp
   simp only at hp ⊢
   split at hp
   case isFalse => exact hp.elim
   rename_i hnd
   rw [if_pos hnd]
   refine (con_core ht hm hf hb C.ps C.rs ks hfine hn hn2 hr hr4 hv (hcd.1.symm ▸ hcd.2.symm ▸ hG.at_ hDS hgl) hM hfr hreps hrd hnd (Φ := fun y z => y = C.out x ∧ z = C.nw x) (fun hwf X hT hX hk hK => h x hp hwf X hT hX hk ?_)).mono fun e w' ⟨u, he, y, z, ⟨hy, hz⟩, hres⟩ => ⟨u, he, ?_⟩
   · rw [hK]
     funext e st
     unfold postR Con.post
     have key : (∃ y z, (y = C.out x ∧ z = C.nw x) ∧ entR C.ps C.rs T fn.results.toList st y z) = entR C.ps C.rs T fn.results.toList st (C.out x) (C.nw x) := by
      apply propext
      constructor
      · rintro ⟨y, z, ⟨rfl, rfl⟩, he⟩; exact he
      · exact fun he => ⟨_, _, ⟨rfl, rfl⟩, he⟩
     cases e with
     | exit => rfl
     | _ => simp only [key]
   · subst hy; subst hz; exact hres

end
theorem EnvG.nil {gl : GVs} {P : Program} {wf : List (Nat × Nat)} : EnvG gl P ⟨[], [], wf, [], gl⟩ := ⟨fun f C h => (by cases h), fun f C h => (by cases h), fun f C h => (by cases h), rfl⟩
theorem EnvG.cons {gl : GVs} {P : Program} {f : FuncId} {C : Ctr} {d : List (Nat × Ctr)} {r : List (Nat × RCtr)} {wf : List (Nat × Nat)} {it : List (Nat × ItC)} (h : CtrG gl P f C) (k : FnHas P f) (e : EnvG gl P ⟨d, r, wf, it, gl⟩) : EnvG gl P ⟨(f, C) :: d, r, wf, it, gl⟩ :=
 ⟨fun g D hg => (by
   simp only [findL] at hg
   split at hg
   · rename_i q; subst q; cases hg; exact ⟨h, k⟩
   · exact e.d g D hg), e.r, e.it, e.gl⟩
theorem EnvG.rcons {gl : GVs} {P : Program} {f : FuncId} {C : RCtr} {d : List (Nat × Ctr)} {r : List (Nat × RCtr)} {wf : List (Nat × Nat)} {it : List (Nat × ItC)} (h : RCtrG gl P f C) (k : FnHas P f) (e : EnvG gl P ⟨d, r, wf, it, gl⟩) : EnvG gl P ⟨d, (f, C) :: r, wf, it, gl⟩ :=
 ⟨e.d, (fun g D hg => by
   simp only [findL] at hg
   split at hg
   · rename_i q; subst q; cases hg; exact ⟨h, k⟩
   · exact e.r g D hg), e.it, e.gl⟩

/-- The packages' variables lie as they are said to lie. -/
def GlIn (gl : GVs) (W : World) : Prop := ∀ g v, findL gl g = some v → g < W.heap.size ∧
 ∃ (vs : Array Value) (e : TypeId) (hh : Nat × Nat), W.heap[g]? = some (.cells vs e hh) ∧ ∀ (w : World) (O : Nat → Prop), roAll (ro w O v.t) v.xs vs.toList
theorem ro_intG (w : World) (O : Nat → Prop) (k : IntKind) : ∀ zs : List Int, (∀ z ∈ zs, InR k z) → roAll (ro w O (.int k)) zs (zs.map fun z => Value.int k z)
 | [], _ => by simp [roAll]
 | z :: zs, h => by
   simp only [roAll, List.map_cons]
   exact ⟨[.int k z], zs.map fun z => Value.int k z, rfl, by unfold ro; exact ⟨rfl, h z (List.mem_cons_self ..)⟩, ro_intG w O k zs fun y hy => h y (List.mem_cons_of_mem _ hy)⟩
theorem glIn_tab {P : Program} {W : World} {name : String} {k : IntKind} {zs : List Int} {g : Nat} (h : Lib.TabIs P W name k zs) (hg : P.globalNamed name = some g) (hr : ∀ z ∈ zs, InR k z) : GlIn [(g, ⟨.int k, zs⟩)] W := fun g' v hv => by
 simp only [findL] at hv
 split at hv
 · rename_i e
   cases hv
   subst e
   unfold Lib.TabIs World.var? at h
   rw [hg] at h
   simp only [Option.bind_some] at h
   split at h
   · rename_i cs e hh hc
     cases h
     exact ⟨(Array.getElem?_eq_some_iff.1 hc).1, _, _, _, hc, fun w O => by simpa using ro_intG w O k zs hr⟩
   · cases h
 · cases hv

section
open Go.RowKit Go.WideShapes Go.ChangeShapes
variable {H : Type} {enc : TypeId × Value → H} {P : Program} {W : World} {B : DataW H → Nat} {BA : List (DataW H) → Nat}
theorem law_callsG (hB : Bulk B BA) {f : FuncId} {tys : List (Bool × Ty)} {pre : dens (lawPs tys) → Prop} {gl : GVs} (hC : CtrG gl P f (lawCon tys pre).ctr) (hgl : GlIn gl W) {ts : List TypeId} (hty : tyBs P ts tys = true) {args : Array Value} {ds : List (DataW H)} {ps : List MemPlace} {base : Nat}
 (hA : DataW.TrodAll enc P W 0 (fun _ => true) true ts args.toList ds ps) (hv : ∀ (j : Nat) (t : TypeId) (v : Value), ts[j]? = some t → args.toList[j]? = some v → Value.okWide P W .any base t v)
 (hpre : ∀ x, szs tys x ≤ BA ds → pwf (lawPs tys) x → pre x) : Calls P f args W fun e W' => e = .returned (.bool true) ∧ Below W.heap.size W W' := by
 obtain ⟨x, avs, h1, h2, h3, h4, h5⟩ := args_rep hB ts tys _ ds ps base hty hA hv
 let cx : Cx := ⟨W, fun _ => False, fun _ => False, 0, fun _ => .int .i64 0, [], fun _ => none, False, gl⟩
 have hM : RepM cx (fun _ => .int .i64 0) (fun _ => True) (fun _ => .dead) W :=
  ⟨fun _ => trivial, fun _ _ => rfl, fun _ _ _ h => (by cases h), fun _ _ h => (by cases h), fun _ _ h => (by cases h), ⟨rfl, rfl, rfl, fun _ => Nat.le_refl _, Nat.le_refl _, fun _ _ _ => rfl⟩, fun _ h => h.elim, fun _ => rfl, fun _ h => absurd h (Nat.not_lt_zero _), (fun _ h => by cases h), fun g v h => ⟨id, id, hgl g v h⟩⟩
 have hr : repAs (rx cx (fun _ => .int .i64 0) (fun _ => True) (fun _ => .dead) W) avs args.toList := by
  refine repAs_keep (x := ⟨W, fun _ => False, fun _ => .int .i64 0, fun _ => True⟩) (y := rx cx (fun _ => .int .i64 0) (fun _ => True) (fun _ => .dead) W) ⟨.ex fun b _ _ => ⟨?_, rfl⟩, fun _ _ => rfl, fun _ h => h⟩ avs _ h1
  rintro (h | ⟨id, h, _⟩)
  · exact h
  · cases h
 have hp := hpre x h4 h5
 have hE : (lawCon tys pre).ctr avs (fun _ => .dead) 0 = (lawCon tys pre).eff avs (fun _ => .dead) 0 x := by
  show (lawCon tys pre).effO avs (fun _ => .dead) 0 (rds (fun _ => .dead) (lawPs tys) avs) = _
  rw [h2]
  show (if okIds (pids (lawPs tys) avs) (rws _ (lawPs tys) avs) then _ else _) = _
  rw [h3, if_pos ⟨List.nodup_nil, rfl⟩]
 have := hC False gl False.elim (fun _ _ h => h) cx ⟨rfl, rfl⟩ (fun _ => .int .i64 0) (fun _ => True) (fun _ => .dead) W 0 avs args.toList hM (fun _ _ _ => trivial) hr (by rw [hE]; exact hp)
 rw [Array.toArray_toList] at this
 refine this.mono fun e W' he => ?_
 obtain ⟨v, rfl, σ', g1, g2, g3, _⟩ := he
 rw [hE] at g3
 have hb : v = .bool true := of_bool g3
 subst hb
 exact ⟨rfl, g1.evo.os, g1.evo.tape, g1.evo.output, g1.evo.size, fun k hk => g1.evo.block k hk (fun h => h)⟩
end
end Go.Ev

/- Authority: the decision about a bag. -/
set_option linter.unusedSimpArgs false
set_option linter.unusedVariables false
set_option maxRecDepth 100000
set_option maxHeartbeats 8000000
namespace Go.Proofs.YtjhoidgpecgfoaaDoor
open Go.Ev

def gvs : GVs := [(0, ⟨.int .i64, [0, 3, 4, 5]⟩)]
attribute [go_sem] glE gvs
def excL : List Int := [0, 3, 4, 5]
def refusalV (x : Fcs) (l : List Dpt) (f : Flt) (now : Int) (fin : Bool) : Int :=
 if x.1 = false then 1 else if x.2.2.1 > 1 then 2 else if x.2.1.2.2.1.1 ≠ f then 3
 else if dpIdx l f < 0 ∨ (l.getD (dpIdx l f).toNat dp0).2.2.2.2.2.2 ≠ 0 ∨ (fin = false ∧ closedV (l.getD (dpIdx l f).toNat dp0) now = true) then 4
 else if x.2.2.2 = false then 5 else if x.2.1.2.2.2.2.2.2.2.1 = false ∨ x.2.1.2.2.2.2.2.2.2.2.2.2.2.2 = true then 6 else 0
def decideV (x : Fcs) (m : List Mnf) (l : List Dpt) (f : Flt) (now : Int) (fin : Bool) : Dcs :=
 if refusalV x l f now fin ≠ 0 then (false, 0, refusalV x l f now fin)
 else if x.2.1.2.2.2.2.2.2.2.2.2.2.1 > 0 ∧ x.2.1.2.2.2.2.2.2.2.2.2.2.1 < 4 then (true, excL.getD x.2.1.2.2.2.2.2.2.2.2.2.2.1.toNat 0, 0)
 else if stV m x.2.1.2.2.1.1 x.2.1.2.2.2.2.1 x.2.1.2.2.2.2.2.1 = 4 then (true, 1, 0)
 else if stV m x.2.1.2.2.1.1 x.2.1.2.2.2.2.1 x.2.1.2.2.2.2.2.1 = 1 ∧ fin = false then (true, 2, 0)
 else if stV m x.2.1.2.2.1.1 x.2.1.2.2.2.2.1 x.2.1.2.2.2.2.2.1 = 5 then (false, 0, 7) else (false, 0, 8)
def con23 : Con := { ps := [.d true (.pair .bool (.pair (.pair yPL (.pair (.pair yFL (.pair .str .str)) (.pair (.pair yFL (.pair .str .str)) (.pair (.sl (.pair yFL (.pair .str .str))) (.pair (.int .i64) (.pair (.int .i64) (.pair (.int .i64) (.pair .bool (.pair .str (.pair .str (.pair (.int .i64) (.pair .str .bool)))))))))))) (.pair (.int .i64) .bool))), .d false (.sl yDP), .d true yFL, .d false (.int .i64), .d false .bool], rs := [.d false (.int .i64)], pre := fun _ => True, out := fun (x : Fcs × List Dpt × Flt × Int × Bool × Unit) => (refusalV x.1 x.2.1 x.2.2.1 x.2.2.2.1 x.2.2.2.2.1, ()), nw := id }
theorem c23 : CtrOk Tryd.prog 23 con23.ctr :=
 con_sound (G := ⟨[(42, con42.ctr), (43, con43.ctr)], [], [], [], []⟩) tab_ok (EnvOk.cons c42 has42 (EnvOk.cons c43 has43 EnvOk.nil)) rfl Tryd.func23 rfl con23 153122388413287615 (by kernel_rfl) (by decide) (by decide) rfl (by decide) rfl (by
  rintro ⟨⟨(known : Bool), ⟨⟨(p1 : Int), (p2 : Int), (p3 : Int)⟩, ⟨⟨i1, (i2 : Int), i3, (i4 : Int)⟩, i5, i6⟩, ⟨⟨o1, (o2 : Int), o3, (o4 : Int)⟩, o5, o6⟩, (onw : List Lgg), (seq : Int), (st : Int), (wt : Int), (ld : Bool), sur, giv, (exc : Int), nod, (unl : Bool)⟩, (cop : Int), (clr : Bool)⟩, (l : List Dpt), ⟨f1, (f2 : Int), f3, (f4 : Int)⟩, (now : Int), (fin : Bool), _⟩ hpre hwf X hT hG hk hK
  (simp -implicitDefEqProofs (maxSteps := 4000000) only [go_sem, Bool.not_eq_true', Bool.not_eq_false', Bool.or_eq_true, Bool.or_eq_false_iff, Bool.and_eq_true, Bool.and_eq_false_iff, decide_eq_true_eq, decide_eq_false_iff_not, Classical.not_not, not_or, maxLen, con23, con42, con43, hT, hG, hk, hK, Tryd.results23] at hwf ⊢); (try simp (disch := decide +kernel) only [drawn, true_and, and_true])
  clear hwf
  have hlt := dpIdx_lt (l := l) (f := (f1, f2, f3, f4))
  unfold refusalV
  generalize dpIdx l (f1, f2, f3, f4) = i at hlt ⊢
  obtain ⟨o, ho⟩ : ∃ o, l.getD i.toNat dp0 = o := ⟨_, rfl⟩
  have eo : l.getD i.toNat ((ByteArray.empty, 0, ByteArray.empty, 0), ByteArray.empty, 0, 0, 0, 0, 0) = o := ho
  have eO : ((o.1.1, o.1.2.1, o.1.2.2.1, o.1.2.2.2), o.2.1, o.2.2.1, o.2.2.2.1, o.2.2.2.2.1, o.2.2.2.2.2.1, o.2.2.2.2.2.2) = o := rfl
  rw [ho]
  try simp only [eo, eO]
  have hf : ((o1, o2, o3, o4) ≠ (f1, f2, f3, f4)) = ¬ (o1 = f1 ∧ o2 = f2 ∧ o3 = f3 ∧ o4 = f4) := by rw [ne_eq, ← fltE]
  simp only [hf]
  generalize closedV o now = C
  clear eo eO ho
  (repeat' (with_reducible (first | refine And.intro ?_ ?_ | intro _))) <;> (try (first | with_reducible (first | done | assumption | omega | contradiction) | decide))
  all_goals first
   | (simp_all; done)
   | (simp_all; omega)
   | grind
   | fail)
def con12 : Con := { ps := [.d true (.pair .bool (.pair (.pair yPL (.pair (.pair yFL (.pair .str .str)) (.pair (.pair yFL (.pair .str .str)) (.pair (.sl (.pair yFL (.pair .str .str))) (.pair (.int .i64) (.pair (.int .i64) (.pair (.int .i64) (.pair .bool (.pair .str (.pair .str (.pair (.int .i64) (.pair .str .bool)))))))))))) (.pair (.int .i64) .bool))), .d false (.sl (.pair yFL (.pair (.int .i64) (.pair (.sl (.int .i64)) (.sl (.int .i64)))))), .d false (.sl yDP), .d true yFL, .d false (.int .i64), .d false .bool], rs := [.d true (.pair .bool (.pair (.int .i64) (.int .i64)))], pre := fun _ => True, out := fun (x : Fcs × List Mnf × List Dpt × Flt × Int × Bool × Unit) => (decideV x.1 x.2.1 x.2.2.1 x.2.2.2.1 x.2.2.2.2.1 x.2.2.2.2.2.1, ()), nw := id }
theorem c12 : CtrG gvs Tryd.prog 12 con12.ctr :=
 con_soundG (G := ⟨[(23, con23.ctr), (24, con24.ctr), (25, con25.ctr), (26, con26.ctr)], [], [], [], gvs⟩) tab_ok (EnvG.cons c23.g has23 (EnvG.cons c24.g has24 (EnvG.cons c25.g has25 (EnvG.cons c26.g has26 EnvG.nil)))) rfl Tryd.func12 rfl con12 9261652650875744895 (by kernel_rfl) (by decide) (by decide) rfl (by decide) rfl (by
  rintro ⟨⟨(known : Bool), ⟨⟨(p1 : Int), (p2 : Int), (p3 : Int)⟩, ⟨⟨i1, (i2 : Int), i3, (i4 : Int)⟩, i5, i6⟩, ⟨⟨o1, (o2 : Int), o3, (o4 : Int)⟩, o5, o6⟩, (onw : List Lgg), (seq : Int), (st : Int), (wt : Int), (ld : Bool), sur, giv, (exc : Int), nod, (unl : Bool)⟩, (cop : Int), (clr : Bool)⟩, (m : List Mnf), (l : List Dpt), ⟨f1, (f2 : Int), f3, (f4 : Int)⟩, (now : Int), (fin : Bool), _⟩ hpre hwf X hT hG hk hK
  (simp -implicitDefEqProofs (maxSteps := 4000000) only [go_sem, Bool.not_eq_true', Bool.not_eq_false', Bool.or_eq_true, Bool.or_eq_false_iff, Bool.and_eq_true, Bool.and_eq_false_iff, decide_eq_true_eq, decide_eq_false_iff_not, Classical.not_not, not_or, maxLen, con12, con23, con24, con25, con26, hT, hG, hk, hK, Tryd.results12, gvs] at hwf ⊢); (try simp (disch := decide +kernel) only [drawn, true_and, and_true])
  unfold decideV excL
  obtain ⟨R, hR⟩ : ∃ R, refusalV (known, ((p1, p2, p3), ((i1, i2, i3, i4), i5, i6), ((o1, o2, o3, o4), o5, o6), onw, seq, st, wt, ld, sur, giv, exc, nod, unl), cop, clr) l (f1, f2, f3, f4) now fin = R := ⟨_, rfl⟩
  obtain ⟨S, hS⟩ : ∃ S, stV m (o1, o2, o3, o4) seq st = S := ⟨_, rfl⟩
  simp only [hR, hS]
  clear hR hS
  (repeat' (with_reducible (first | refine And.intro ?_ ?_ | intro _))) <;> (try (first | with_reducible (first | done | assumption | omega | contradiction) | decide))
  all_goals first
   | omega
   | (rw [if_pos (by omega)]; done)
   | (rw [if_neg (by omega), if_pos (by omega)]; done)
   | (rw [if_neg (by omega), if_neg (by omega), if_pos (by omega)]; done)
   | (rw [if_neg (by omega), if_neg (by omega), if_neg (by omega), if_pos (by first | assumption | exact ⟨by omega, by assumption⟩)]; done)
   | (rw [if_neg (by omega), if_neg (by omega), if_neg (by omega), if_neg (by rintro ⟨h3, h4⟩; simp_all), if_pos (by omega)]; done)
   | (rw [if_neg (by omega), if_neg (by omega), if_neg (by omega), if_neg (by rintro ⟨h3, h4⟩; simp_all), if_neg (by omega)]; done)
   | skip)
end Go.Proofs.YtjhoidgpecgfoaaDoor

/- What DepartureRulings needs of schedules, and its generators. -/
set_option linter.unusedSimpArgs false
set_option linter.unusedVariables false
set_option maxRecDepth 100000
set_option maxHeartbeats 8000000
namespace Go.Proofs.YtjhoidgpecgfoaaDoor
open Go.Ev

/-- The order of flights, as the reference has it. -/
def cmpR (a b : Flt) : Int := if a = b then 0 else if a.1 ≠ b.1 then (if strLt a.1 b.1 = true then -1 else 1) else if a.2.1 ≠ b.2.1 then (if a.2.1 < b.2.1 then -1 else 1) else if a.2.2.1 ≠ b.2.2.1 then (if strLt a.2.2.1 b.2.2.1 = true then -1 else 1) else if a.2.2.2 < b.2.2.2 then -1 else 1
def con39 : Con := { ps := [.d true yFL, .d true yFL], rs := [.d false (.int .i64)], pre := fun _ => True, out := fun (x : Flt × Flt × Unit) => (cmpR x.1 x.2.1, ()), nw := id }
theorem c39 : CtrOk Tryd.prog 39 con39.ctr :=
 con_sound (G := ⟨[], [], [], [], []⟩) tab_ok EnvOk.nil rfl Tryd.func39 rfl con39 6600292565567 (by kernel_rfl) (by decide) (by decide) rfl (by decide) rfl (by
  rintro ⟨⟨a1, (a2 : Int), a3, (a4 : Int)⟩, ⟨b1, (b2 : Int), b3, (b4 : Int)⟩, _⟩ hpre hwf X hT hG hk hK
  (simp -implicitDefEqProofs (maxSteps := 4000000) only [go_sem, Bool.not_eq_true', Bool.not_eq_false', Bool.or_eq_true, Bool.or_eq_false_iff, Bool.and_eq_true, Bool.and_eq_false_iff, decide_eq_true_eq, decide_eq_false_iff_not, Classical.not_not, not_or, maxLen, con39, hT, hG, hk, hK, Tryd.results39] at hwf ⊢); (try simp (disch := decide +kernel) only [drawn, true_and, and_true])
  clear hwf
  have hf : ((a1, a2, a3, a4) = (b1, b2, b3, b4)) = (a1 = b1 ∧ a2 = b2 ∧ a3 = b3 ∧ a4 = b4) := by simp
  unfold cmpR
  simp only [hf]
  (repeat' (with_reducible (first | refine And.intro ?_ ?_ | intro _))) <;> (try (first | with_reducible (first | done | assumption | omega | contradiction) | decide))
  all_goals first
   | (simp_all; done)
   | (simp_all; omega)
   | grind)
def dptOk (d : Dpt) : Bool := fltOk d.1 && lettersV d.2.1 3 3 && decide (d.2.2.1 ≥ 0) && decide (d.2.2.1 < d.2.2.2.1) && decide (d.2.2.2.1 ≤ d.2.2.2.2.1) && decide (d.2.2.2.2.1 ≤ 1048576) && decide (d.2.2.2.2.2.1 ≥ 0) && decide (d.2.2.2.2.2.1 ≤ 99) && decide (d.2.2.2.2.2.2 ≥ 0) && decide (d.2.2.2.2.2.2 ≤ 2)
def con38 : Con := { ps := [.d true yDP], rs := [.d false .bool], pre := fun _ => True, out := fun (x : Dpt × Unit) => (dptOk x.1, ()), nw := id }
theorem c38 : CtrOk Tryd.prog 38 con38.ctr :=
 con_sound (G := ⟨[(55, con55.ctr), (56, con56.ctr)], [], [], [], []⟩) tab_ok (EnvOk.cons c55 has55 (EnvOk.cons c56 has56 EnvOk.nil)) rfl Tryd.func38 rfl con38 7 (by kernel_rfl) (by decide) (by decide) rfl (by decide) rfl (by
  rintro ⟨⟨⟨f1, (f2 : Int), f3, (f4 : Int)⟩, p, (o : Int), (c : Int), (l : Int), (s : Int), (st : Int)⟩, _⟩ hpre hwf X hT hG hk hK
  (simp -implicitDefEqProofs (maxSteps := 4000000) only [go_sem, Bool.not_eq_true', Bool.not_eq_false', Bool.or_eq_true, Bool.or_eq_false_iff, Bool.and_eq_true, Bool.and_eq_false_iff, decide_eq_true_eq, decide_eq_false_iff_not, Classical.not_not, not_or, maxLen, con38, con55, con56, hT, hG, hk, hK, Tryd.results38] at hwf ⊢); (try simp (disch := decide +kernel) only [drawn, true_and, and_true])
  (repeat' (with_reducible (first | refine And.intro ?_ ?_ | intro _))) <;> (try (first | with_reducible (first | done | assumption | omega | contradiction) | decide))
  all_goals first | rfl | (unfold dptOk; rfl))
def con16 : Con := { ps := [.d false (.sl yDP)], rs := [.d false (.int .i64)], pre := fun (x : List Dpt × Unit) => x.1.length ≤ 24 ∧ (∀ k, k < x.1.length → dptOk (x.1.getD k dp0) = true) ∧ (∀ k, k + 1 < x.1.length → cmpR (x.1.getD k dp0).1 (x.1.getD (k + 1) dp0).1 < 0), out := fun _ => (0, ()), nw := id }
theorem c16 : CtrOk Tryd.prog 16 con16.ctr :=
 con_sound (G := ⟨[(38, con38.ctr), (39, con39.ctr)], [], [], [], []⟩) tab_ok (EnvOk.cons c38 has38 (EnvOk.cons c39 has39 EnvOk.nil)) rfl Tryd.func16 rfl con16 171801315485 (by kernel_rfl) (by decide) (by decide) rfl (by decide) rfl (by
  rintro ⟨(l : List Dpt), _⟩ hpre hwf X hT hG hk hK
  obtain ⟨hl, ho, hs⟩ : l.length ≤ 24 ∧ (∀ k, k < l.length → dptOk (l.getD k dp0) = true) ∧ (∀ k, k + 1 < l.length → cmpR (l.getD k dp0).1 (l.getD (k + 1) dp0).1 < 0) := hpre
  (simp -implicitDefEqProofs (maxSteps := 4000000) only [go_sem, Bool.not_eq_true', Bool.not_eq_false', Bool.or_eq_true, Bool.or_eq_false_iff, Bool.and_eq_true, Bool.and_eq_false_iff, decide_eq_true_eq, decide_eq_false_iff_not, Classical.not_not, not_or, maxLen, con16, con38, con39, hT, hG, hk, hK, Tryd.results16] at hwf ⊢); (try simp (disch := decide +kernel) only [drawn, true_and, and_true])
  clear hwf
  (repeat' (with_reducible (first | refine And.intro ?_ ?_ | intro _))) <;> (try (first | with_reducible (first | done | assumption | omega | contradiction) | decide))
  all_goals try omega
  refine evk_loop ⟨{ i : Nat // i ≤ l.length }, 1000, fun q => [(0, .one (.sl yDP l false)), (3, .one (.int .i64 q.1))], fun q => [], fun q => l.length - q.1⟩ ⟨0, by omega⟩ ?_ ?_
  · simp only [go_sem]
    try (first | rfl | exact ⟨rfl, rfl⟩ | (and_intros <;> first | trivial | rfl | omega))
  · rintro ⟨i, (hi : i ≤ l.length)⟩
    (simp -implicitDefEqProofs (maxSteps := 4000000) only [go_sem, Bool.not_eq_true', Bool.not_eq_false', Bool.or_eq_true, Bool.or_eq_false_iff, Bool.and_eq_true, Bool.and_eq_false_iff, decide_eq_true_eq, decide_eq_false_iff_not, Classical.not_not, not_or, maxLen, con16, con38, con39, hT, hG, hk, hK, Tryd.results16]); (try simp (disch := decide +kernel) only [drawn, true_and, and_true])
    have eta : ∀ o : Dpt, ((o.1.1, o.1.2.1, o.1.2.2.1, o.1.2.2.2), o.2.1, o.2.2.1, o.2.2.2.1, o.2.2.2.2.1, o.2.2.2.2.2.1, o.2.2.2.2.2.2) = o := fun _ => rfl
    have etf : ∀ o : Flt, (o.1, o.2.1, o.2.2.1, o.2.2.2) = o := fun _ => rfl
    have e0 : ((ByteArray.empty, 0, ByteArray.empty, 0), ByteArray.empty, 0, 0, 0, 0, 0) = dp0 := rfl
    simp only [eta, etf, e0]
    have hoi : i < l.length → dptOk (l.getD (i : Int).toNat dp0) = true := fun h => ho i h
    have hsi : 0 < i → i < l.length → cmpR (l.getD ((i : Int) - 1).toNat dp0).1 (l.getD (i : Int).toNat dp0).1 < 0 := fun h0 h => by
     have := hs (i - 1) (by omega)
     rw [show ((i : Int) - 1).toNat = i - 1 by omega, show (i : Int).toNat = i - 1 + 1 by omega]; exact this
    (repeat' (with_reducible (first | refine And.intro ?_ ?_ | intro _))) <;> (try (first | with_reducible (first | done | assumption | omega | contradiction) | decide))
    all_goals first
     | omega
     | (have := hoi (by omega); simp_all; done)
     | (have := hsi (by omega) (by omega); omega)
     | (refine fin_lp ⟨i + 1, by omega⟩ (by simp only [go_sem]; first | rfl | ((repeat' apply And.intro) <;> first | rfl | assumption | omega)) (by dsimp only; omega)
        done)
     | skip)
def con18 : RCon := { ps := [.p 65 ySR], rs := [.d false (.sl (.int .i64))], pre := fun (x : Src × Unit) => 0 ≤ x.1.2, rel := fun (x : Src × Unit) (y : List Int × Unit) (z : Src × Unit) => 0 ≤ z.1.2 ∧ y.1.length ≤ 12 }
theorem c18 : RCtrOk Tryd.prog 18 con18.rctr :=
 rcon_sound (G := ⟨[(10, con10.ctr)], [], [], [], []⟩) tab_ok (EnvOk.cons c10 has10 EnvOk.nil) rfl Tryd.func18 rfl con18 66109 (by kernel_rfl) (by decide) (by decide) rfl (by decide) rfl (by
  rintro ⟨⟨(s : List Int), (a : Int)⟩, _⟩ hpre hwf X hT hG hk hK
  have h1 : 0 ≤ a := hpre
  (simp -implicitDefEqProofs (maxSteps := 4000000) only [go_sem, Bool.not_eq_true', Bool.not_eq_false', Bool.or_eq_true, Bool.or_eq_false_iff, Bool.and_eq_true, Bool.and_eq_false_iff, decide_eq_true_eq, decide_eq_false_iff_not, Classical.not_not, not_or, maxLen, con18, con10, hT, hG, hk, hK, Tryd.results18] at hwf ⊢); (try simp (disch := decide +kernel) only [drawn, true_and, and_true])
  have hs1 : 0 ≤ (Src.step (s, a)).snd := step_pos h1
  have hkb := goMod_bd (Src.raw (s, a)) 4096 (by omega)
  generalize goMod (Src.raw (s, a)) 4096 = K at hkb ⊢
  generalize Src.step (s, a) = S1 at hs1 ⊢
  obtain ⟨s1, a1⟩ := S1
  (repeat' (with_reducible (first | refine And.intro ?_ ?_ | intro _))) <;> (try (first | with_reducible (first | done | assumption | omega | contradiction) | decide))
  refine evk_loop ⟨{ q : List Int × Nat // q.1.length ≤ q.2 ∧ q.2 ≤ 12 }, 1000, fun q => [(0, .one (.loc 0 0)), (3, .one (.row 64)), (4, .one (.int .i64 K)), (5, .one (.int .i64 q.1.2))],
   fun q => [(0, .cells 65 [.sl (.int .i64) s1 false, .int .i64 a1]), (64, .row 3 (.int .i64) q.1.1)], fun q => 12 - q.1.2⟩ ⟨([], 0), Nat.le_refl _, by omega⟩ ?_ ?_
  · simp only [go_sem]
    try (first | rfl | exact ⟨rfl, rfl⟩ | (and_intros <;> first | trivial | rfl | omega))
  · rintro ⟨⟨l, i⟩, (hl : l.length ≤ i), (hi : i ≤ 12)⟩
    (simp -implicitDefEqProofs (maxSteps := 4000000) only [go_sem, Bool.not_eq_true', Bool.not_eq_false', Bool.or_eq_true, Bool.or_eq_false_iff, Bool.and_eq_true, Bool.and_eq_false_iff, decide_eq_true_eq, decide_eq_false_iff_not, Classical.not_not, not_or, maxLen, con18, con10, hT, hG, hk, hK, Tryd.results18]); (try simp (disch := decide +kernel) only [drawn, true_and, and_true])
    (repeat' (with_reducible (first | refine And.intro ?_ ?_ | intro _))) <;> (try (first | with_reducible (first | done | assumption | omega | contradiction) | decide))
    all_goals first
     | omega
     | (refine fin_lp ⟨(l ++ [(i : Int) + 1], i + 1), (by rw [List.length_append, List.length_singleton]; show l.length + 1 ≤ i + 1; omega), (by show i + 1 ≤ 12; omega)⟩ ?_ (by dsimp only; omega)
        simp only [go_sem]
        try (first | rfl | exact ⟨rfl, rfl⟩ | (and_intros <;> first | trivial | rfl | omega))
        done)
     | (refine fin_lp ⟨(l, i + 1), (by show l.length ≤ i + 1; omega), (by show i + 1 ≤ 12; omega)⟩ ?_ (by dsimp only; omega)
        simp only [go_sem]
        try (first | rfl | exact ⟨rfl, rfl⟩ | (and_intros <;> first | trivial | rfl | omega))
        done)
     | exact ⟨(l, ()), ((s1, a1), ()), ⟨hs1, (by show l.length ≤ 12; omega)⟩, rfl, rfl, rfl⟩
     | skip)
def con6 : RCon := { ps := [.p 65 ySR], rs := [.d false (.sl (.pair yFL (.pair (.int .i64) (.pair (.sl (.int .i64)) (.sl (.int .i64))))))], pre := fun (x : Src × Unit) => 0 ≤ x.1.2, rel := fun (x : Src × Unit) (y : List Mnf × Unit) (z : Src × Unit) => 0 ≤ z.1.2 }
theorem c6 : RCtrOk Tryd.prog 6 con6.rctr :=
 rcon_sound (G := ⟨[(10, con10.ctr), (11, con11.ctr)], [(18, con18.rctr)], [], [], []⟩) tab_ok (EnvOk.cons c10 has10 (EnvOk.cons c11 has11 (EnvOk.rcons c18 has18 EnvOk.nil))) rfl Tryd.func6 rfl con6 4546642621 (by kernel_rfl) (by decide) (by decide) rfl (by decide) rfl (by
  rintro ⟨⟨(s : List Int), (a : Int)⟩, _⟩ hpre hwf X hT hG hk hK
  have h1 : 0 ≤ a := hpre
  (simp -implicitDefEqProofs (maxSteps := 4000000) only [go_sem, Bool.not_eq_true', Bool.not_eq_false', Bool.or_eq_true, Bool.or_eq_false_iff, Bool.and_eq_true, Bool.and_eq_false_iff, decide_eq_true_eq, decide_eq_false_iff_not, Classical.not_not, not_or, maxLen, con6, con10, con11, con18, hT, hG, hk, hK, Tryd.results6] at hwf ⊢); (try simp (disch := decide +kernel) only [drawn, true_and, and_true])
  refine evk_loop ⟨{ q : Src × List Mnf × Nat // 0 ≤ q.1.2 ∧ q.2.1.length ≤ q.2.2 ∧ q.2.2 ≤ 5 }, 1000, fun q => [(0, .one (.loc 0 0)), (3, .one (.row 64)), (4, .one (.int .i64 q.1.2.2))],
   fun q => [(0, .cells 65 [.sl (.int .i64) q.1.1.1 false, .int .i64 q.1.1.2]), (64, .row 70 (.pair yFL (.pair (.int .i64) (.pair (.sl (.int .i64)) (.sl (.int .i64))))) q.1.2.1)], fun q => 5 - q.1.2.2⟩ ⟨((s, a), [], 0), h1, Nat.le_refl _, (by show (0 : Nat) ≤ 5; omega)⟩ ?_ ?_
  · simp only [go_sem]
    try (first | rfl | exact ⟨rfl, rfl⟩ | (and_intros <;> first | trivial | rfl | omega))
  · rintro ⟨⟨⟨s, a⟩, l, i⟩, (h1 : 0 ≤ a), (hl : l.length ≤ i), (hi : i ≤ 5)⟩
    (simp -implicitDefEqProofs (maxSteps := 4000000) only [go_sem, Bool.not_eq_true', Bool.not_eq_false', Bool.or_eq_true, Bool.or_eq_false_iff, Bool.and_eq_true, Bool.and_eq_false_iff, decide_eq_true_eq, decide_eq_false_iff_not, Classical.not_not, not_or, maxLen, con6, con10, con11, con18, hT, hG, hk, hK, Tryd.results6]); (try simp (disch := decide +kernel) only [drawn, true_and, and_true])
    have p1 : 0 ≤ (Src.step (s, a)).snd := step_pos h1
    have p2 : 0 ≤ (Src.step (s, a)).step.snd := step_pos p1
    have r2 := goMod_bd (Src.step (s, a)).raw 4 (by omega)
    generalize goMod (Src.step (s, a)).raw 4 = V2 at r2 ⊢
    generalize goMod (Src.raw (s, a)) 2 = V1
    generalize (Src.step (s, a)).step = S2 at p2 ⊢
    generalize Src.step (s, a) = S1 at p1 ⊢
    obtain ⟨s2, a2⟩ := S2
    obtain ⟨s1, a1⟩ := S1
    refine ⟨fun hlt => ⟨h1, fun _ => ⟨fun hV => ⟨⟨by omega, by omega⟩, ?_⟩, fun hV hwF => ⟨p1, fun _ => ⟨⟨by omega, by omega⟩, p2, ?_⟩⟩⟩⟩, fun hge => ?_⟩
    · refine fin_lp ⟨((s1, a1), l, i + 1), p1, (by show l.length ≤ i + 1; omega), (by show i + 1 ≤ 5; omega)⟩ ?_ (by dsimp only; omega)
      simp only [go_sem]
      try (first | rfl | exact ⟨rfl, rfl⟩ | (and_intros <;> first | trivial | rfl | omega))
    · rintro ⟨⟨(ev : List Int), _⟩, ⟨⟨(s3 : List Int), (a3 : Int)⟩, _⟩⟩ ⟨⟨(p3 : 0 ≤ a3), (hev : ev.length ≤ 12)⟩, _⟩ hel
      obtain ⟨F, hF⟩ : ∃ F : Flt, fltsV i = F := ⟨_, rfl⟩
      simp only [hF]
      refine evk_loop ⟨{ q : Src × List Int × Nat // 0 ≤ q.1.2 ∧ q.2.1.length ≤ q.2.2 ∧ q.2.2 ≤ ev.length }, 2000, fun q => [(0, .one (.loc 0 0)), (3, .one (.row 64)), (4, .one (.int .i64 i)), (5, .one (.loc 70 0)), (24, .one (.sl (.int .i64) ev false)), (25, .one (.int .i64 ev.length)), (26, .one (.int .i64 q.1.2.2))],
       fun q => [(0, .cells 65 [.sl (.int .i64) q.1.1.1 false, .int .i64 q.1.1.2]), (64, .row 70 (.pair yFL (.pair (.int .i64) (.pair (.sl (.int .i64)) (.sl (.int .i64))))) l), (70, .cells 70 [.str F.1, .int .i64 F.2.1, .str F.2.2.1, .int .i64 F.2.2.2, .int .i64 (1 + V2), .row 71, .sl (.int .i64) ev false]), (71, .row 3 (.int .i64) q.1.2.1)], fun q => ev.length - q.1.2.2⟩ ⟨((s3, a3), [], 0), p3, Nat.le_refl _, Nat.zero_le _⟩ ?_ ?_
      · simp only [go_sem]
        try (first | rfl | exact ⟨rfl, rfl⟩ | (and_intros <;> first | trivial | rfl | omega))
      · rintro ⟨⟨⟨s, a⟩, b, k⟩, (h1 : 0 ≤ a), (hb : b.length ≤ k), (hk2 : k ≤ ev.length)⟩
        (simp -implicitDefEqProofs (maxSteps := 4000000) only [go_sem, Bool.not_eq_true', Bool.not_eq_false', Bool.or_eq_true, Bool.or_eq_false_iff, Bool.and_eq_true, Bool.and_eq_false_iff, decide_eq_true_eq, decide_eq_false_iff_not, Classical.not_not, not_or, maxLen, con6, con10, con11, con18, hT, hG, hk, hK, Tryd.results6]); (try simp (disch := decide +kernel) only [drawn, true_and, and_true])
        have p1 : 0 ≤ (Src.step (s, a)).snd := step_pos h1
        generalize goMod (Src.raw (s, a)) 3 = V3
        generalize Src.step (s, a) = S1 at p1 ⊢
        obtain ⟨s1, a1⟩ := S1
        (repeat' (with_reducible (first | refine And.intro ?_ ?_ | intro _))) <;> (try (first | with_reducible (first | done | assumption | omega | contradiction) | decide))
        all_goals first
         | omega
         | (refine fin_lp ⟨((s1, a1), b ++ [ev.getD k 0], k + 1), p1, (by rw [List.length_append, List.length_singleton]; show b.length + 1 ≤ k + 1; omega), (by show k + 1 ≤ ev.length; omega)⟩ ?_ (by dsimp only; omega)
            simp only [go_sem]
            try (first | rfl | exact ⟨rfl, rfl⟩ | (and_intros <;> first | trivial | rfl | omega))
            done)
         | (refine fin_lp ⟨((s1, a1), b, k + 1), p1, (by show b.length ≤ k + 1; omega), (by show k + 1 ≤ ev.length; omega)⟩ ?_ (by dsimp only; omega)
            simp only [go_sem]
            try (first | rfl | exact ⟨rfl, rfl⟩ | (and_intros <;> first | trivial | rfl | omega))
            done)
         | (refine fin_lp ⟨((s, a), l ++ [(F, 1 + V2, b, ev)], i + 1), h1, (by rw [List.length_append, List.length_singleton]; show l.length + 1 ≤ i + 1; omega), (by show i + 1 ≤ 5; omega)⟩ ?_ (by dsimp only; omega)
            simp only [go_sem]
            try (first | rfl | exact ⟨rfl, rfl⟩ | (and_intros <;> first | trivial | rfl | omega))
            done)
         | (trace_state; fail)
    · exact ⟨(l, ()), ((s, a), ()), h1, rfl, rfl, rfl⟩)
def lgN : Lgg := ((ByteArray.empty, 0, ByteArray.empty, 0), ByteArray.empty, ByteArray.empty)
def con8 : RCon := { ps := [.p 65 ySR], rs := [.d true (.pair .bool (.pair (.pair yPL (.pair (.pair yFL (.pair .str .str)) (.pair (.pair yFL (.pair .str .str)) (.pair (.sl (.pair yFL (.pair .str .str))) (.pair (.int .i64) (.pair (.int .i64) (.pair (.int .i64) (.pair .bool (.pair .str (.pair .str (.pair (.int .i64) (.pair .str .bool)))))))))))) (.pair (.int .i64) .bool)))], pre := fun (x : Src × Unit) => 0 ≤ x.1.2, rel := fun (x : Src × Unit) (y : Fcs × Unit) (z : Src × Unit) => 0 ≤ z.1.2 }
theorem c8 : RCtrOk Tryd.prog 8 con8.rctr :=
 rcon_sound (G := ⟨[(10, con10.ctr), (20, con20.ctr), (11, con11.ctr)], [], [], [], []⟩) tab_ok (EnvOk.cons c10 has10 (EnvOk.cons c20 has20 (EnvOk.cons c11 has11 EnvOk.nil))) rfl Tryd.func8 rfl con8 1099511627789 (by kernel_rfl) (by decide) (by decide) rfl (by decide) rfl (by
  rintro ⟨⟨(s : List Int), (a : Int)⟩, _⟩ hpre hwf X hT hG hk hK
  have h1 : 0 ≤ a := hpre
  (simp -implicitDefEqProofs (maxSteps := 4000000) only [go_sem, Bool.not_eq_true', Bool.not_eq_false', Bool.or_eq_true, Bool.or_eq_false_iff, Bool.and_eq_true, Bool.and_eq_false_iff, decide_eq_true_eq, decide_eq_false_iff_not, Classical.not_not, not_or, maxLen, con8, con10, con20, con11, hT, hG, hk, hK, Tryd.results8] at hwf ⊢); (try simp (disch := decide +kernel) only [drawn, true_and, and_true])
  clear hwf
  have p1 : 0 ≤ (Src.step (s, a)).snd := step_pos h1
  have p2 : 0 ≤ (Src.step (s, a)).step.snd := step_pos p1
  have p3 : 0 ≤ (Src.step (s, a)).step.step.snd := step_pos p2
  have p4 : 0 ≤ (Src.step (s, a)).step.step.step.snd := step_pos p3
  have p5 : 0 ≤ (Src.step (s, a)).step.step.step.step.snd := step_pos p4
  have p6 : 0 ≤ (Src.step (s, a)).step.step.step.step.step.snd := step_pos p5
  have p7 : 0 ≤ (Src.step (s, a)).step.step.step.step.step.step.snd := step_pos p6
  have p8 : 0 ≤ (Src.step (s, a)).step.step.step.step.step.step.step.snd := step_pos p7
  have p9 : 0 ≤ (Src.step (s, a)).step.step.step.step.step.step.step.step.snd := step_pos p8
  have p10 : 0 ≤ (Src.step (s, a)).step.step.step.step.step.step.step.step.step.snd := step_pos p9
  have p11 : 0 ≤ (Src.step (s, a)).step.step.step.step.step.step.step.step.step.step.snd := step_pos p10
  have r0 := goMod_bd (Src.raw (s, a)) 12 (by omega)
  have r1 := goMod_bd ((Src.step (s, a)).raw) 12 (by omega)
  have r2 := goMod_bd ((Src.step (s, a)).step.raw) 8 (by omega)
  have r4 := goMod_bd ((Src.step (s, a)).step.step.step.raw) 3 (by omega)
  have r5 := goMod_bd ((Src.step (s, a)).step.step.step.step.raw) 12 (by omega)
  have r6 := goMod_bd ((Src.step (s, a)).step.step.step.step.step.raw) 4 (by omega)
  have r7 := goMod_bd ((Src.step (s, a)).step.step.step.step.step.step.raw) 30 (by omega)
  have r8 := goMod_bd ((Src.step (s, a)).step.step.step.step.step.step.step.raw) 9 (by omega)
  have r9 := goMod_bd ((Src.step (s, a)).step.step.step.step.step.step.step.step.raw) 12 (by omega)
  have r10 := goMod_bd ((Src.step (s, a)).step.step.step.step.step.step.step.step.step.raw) 4 (by omega)
  have r11 := goMod_bd ((Src.step (s, a)).step.step.step.step.step.step.step.step.step.step.raw) 5 (by omega)
  generalize platesV (goMod ((Src.step (s, a)).step.step.raw) 20) = PL
  generalize goMod ((Src.step (s, a)).step.step.step.step.step.step.step.step.step.step.raw) 5 = V11 at r11 ⊢
  generalize goMod ((Src.step (s, a)).step.step.step.step.step.step.step.step.step.raw) 4 = V10 at r10 ⊢
  generalize goMod ((Src.step (s, a)).step.step.step.step.step.step.step.step.raw) 12 = V9 at r9 ⊢
  generalize goMod ((Src.step (s, a)).step.step.step.step.step.step.step.raw) 9 = V8 at r8 ⊢
  generalize goMod ((Src.step (s, a)).step.step.step.step.step.step.raw) 30 = V7 at r7 ⊢
  generalize goMod ((Src.step (s, a)).step.step.step.step.step.raw) 4 = V6 at r6 ⊢
  generalize goMod ((Src.step (s, a)).step.step.step.step.raw) 12 = V5 at r5 ⊢
  generalize goMod ((Src.step (s, a)).step.step.step.raw) 3 = V4 at r4 ⊢
  generalize goMod ((Src.step (s, a)).step.raw) 8 = V2 at r2 ⊢
  generalize goMod ((Src.step (s, a)).raw) 12 = V1 at r1 ⊢
  generalize goMod (Src.raw (s, a)) 12 = V0 at r0 ⊢
  generalize fltsV V4 = FL
  generalize (Src.step (s, a)).step.step.step.step.step.step.step.step.step.step = S11 at p11 ⊢
  generalize (Src.step (s, a)).step.step.step.step.step.step.step.step.step = S10 at p10 ⊢
  have hQ : 0 ≤ V1.tdiv 11 ∧ V1.tdiv 11 ≤ 1 := by rw [Int.tdiv_eq_ediv_of_nonneg (by omega)]; omega
  generalize V1.tdiv 11 = Q at hQ ⊢
  obtain ⟨s11, a11⟩ := S11
  obtain ⟨s10, a10⟩ := S10
  (repeat' (with_reducible (first | refine And.intro ?_ ?_ | intro _))) <;> (try (first | with_reducible (first | done | assumption | omega | contradiction) | decide))
  all_goals first
   | (refine ⟨((decide ¬V0 = 11, (PL, lgN, (FL, ⟨#[76, 72, 82]⟩, ⟨#[89]⟩), [], 1 + V5, 1 + V6, 1 + V7, decide ¬V8 = 8, ⟨#[88]⟩, ByteArray.empty, V11, ByteArray.empty, decide (V9 = 11)), 1 + Q, decide ¬V2 = 7), ()), (Src.step (s11, a11), ()), step_pos p11, ?_⟩; and_intros <;> rfl; done)
   | (refine ⟨((decide ¬V0 = 11, (PL, lgN, (FL, ⟨#[76, 72, 82]⟩, ⟨#[89]⟩), [], 1 + V5, 1 + V6, 1 + V7, decide ¬V8 = 8, ⟨#[88]⟩, ByteArray.empty, 0, ByteArray.empty, decide (V9 = 11)), 1 + Q, decide ¬V2 = 7), ()), ((s11, a11), ()), p11, ?_⟩; and_intros <;> rfl; done)
   | (trace_state; fail))
end Go.Proofs.YtjhoidgpecgfoaaDoor

/- What bars a departure: the reference's. -/
set_option linter.unusedSimpArgs false
set_option linter.unusedVariables false
set_option maxRecDepth 100000
set_option maxHeartbeats 4000000
namespace Go.Proofs.YtjhoidgpecgfoaaDoor
open Go.Ev

theorem barE (a b : Bar) : (a.1 = b.1 ∧ a.2.1 = b.2.1 ∧ a.2.2.1 = b.2.2.1 ∧ a.2.2.2.1 = b.2.2.2.1 ∧ a.2.2.2.2 = b.2.2.2.2) = (a = b) := by
 rw [eq_iff_iff]; exact ⟨fun h => Prod.ext h.1 (Prod.ext h.2.1 (Prod.ext h.2.2.1 (Prod.ext h.2.2.2.1 h.2.2.2.2))), fun h => by rw [h]; exact ⟨rfl, rfl, rfl, rfl, rfl⟩⟩
theorem barN (a b : Bar) : (¬ a.1 = b.1 ∨ ¬ a.2.1 = b.2.1 ∨ ¬ a.2.2.1 = b.2.2.1 ∨ ¬ a.2.2.2.1 = b.2.2.2.1 ∨ ¬ a.2.2.2.2 = b.2.2.2.2) = (¬ a = b) := by
 rw [← barE, eq_iff_iff]
 by_cases h1 : a.1 = b.1 <;> by_cases h2 : a.2.1 = b.2.1 <;> by_cases h3 : a.2.2.1 = b.2.2.1 <;> by_cases h4 : a.2.2.2.1 = b.2.2.2.1 <;> by_cases h5 : a.2.2.2.2 = b.2.2.2.2 <;> simp [h1, h2, h3, h4, h5]
instance kdBar1 : DecidableEq (Int × Plt) := instDecidableEqProd
instance kdBar : DecidableEq Bar := instDecidableEqProd
def con15 : Con := { ps := [.d false (.sl yBR), .d false (.sl yBR)], rs := [.d false .bool], pre := fun x => True, out := fun (x : List Bar × List Bar × Unit) => (decide (x.1 = x.2.1), ()), nw := id }
theorem c15 : CtrOk Tryd.prog 15 con15.ctr :=
 con_sound (G := ⟨[], [], [], [], []⟩) tab_ok EnvOk.nil rfl Tryd.func15 rfl con15 33571891 (by kernel_rfl) (by decide) (by decide) rfl (by decide) rfl (by
  rintro ⟨(a : List Bar), (b : List Bar), _⟩ hpre hwf X hT hG hk hK
  (simp -implicitDefEqProofs (maxSteps := 4000000) only [go_sem, Bool.not_eq_true', Bool.not_eq_false', Bool.or_eq_true, Bool.or_eq_false_iff, Bool.and_eq_true, Bool.and_eq_false_iff, decide_eq_true_eq, decide_eq_false_iff_not, Classical.not_not, not_or, maxLen, con15, hT, hG, hk, hK, Tryd.results15] at hwf ⊢); (try simp (disch := decide +kernel) only [drawn, true_and, and_true])
  clear hwf
  refine fun _ _ => ⟨fun hne => ?_, fun hq => ?_⟩
  · rw [eq_comm, decide_eq_false_iff_not]; intro q; subst q; exact hne rfl
  · have hq : a.length = b.length := by omega
    refine evk_loop ⟨{ i : Nat // i ≤ a.length ∧ a.take i = b.take i }, 1000, fun q => [(0, .one (.sl yBR a false)), (1, .one (.sl yBR b false)), (5, .one (.int .i64 q.1))], fun q => [], fun q => a.length - q.1⟩ ⟨0, by simp, by simp⟩ ?_ ?_
    · simp only [go_sem]
      try (first | rfl | exact ⟨rfl, rfl⟩)
    · rintro ⟨i, (hi : i ≤ a.length), (he : a.take i = b.take i)⟩
      (simp -implicitDefEqProofs (maxSteps := 4000000) only [go_sem, Bool.not_eq_true', Bool.not_eq_false', Bool.or_eq_true, Bool.or_eq_false_iff, Bool.and_eq_true, Bool.and_eq_false_iff, decide_eq_true_eq, decide_eq_false_iff_not, Classical.not_not, not_or, maxLen, con15, hT, hG, hk, hK, Tryd.results15]); (try simp (disch := decide +kernel) only [drawn, true_and, and_true])
      refine fun _ => ⟨fun hlt => ?_, fun hge => ?_⟩
      · have hil : i < a.length := by omega
        have hil2 : i < b.length := by omega
        obtain ⟨o, ho⟩ : ∃ o, a[i] = o := ⟨_, rfl⟩
        obtain ⟨u, hu⟩ : ∃ u, b[i] = u := ⟨_, rfl⟩
        have eo : a.getD (i : Int).toNat (0, 0, 0, 0, 0) = o := by rw [← ho]; simp [hil]
        have eu : b.getD (i : Int).toNat (0, 0, 0, 0, 0) = u := by rw [← hu]; simp [hil2]
        simp only [eo, eu]
        simp only [barE, barN]
        (repeat' (with_reducible (first | refine And.intro ?_ ?_ | intro _))) <;> (try (first | with_reducible (first | done | assumption | omega | contradiction) | decide))
        · have hne : ¬ o = u := by assumption
          rw [eq_comm, decide_eq_false_iff_not]
          intro q
          subst q
          exact hne (ho.symm.trans hu)
        · have hne : o = u := by first | assumption | (apply Decidable.byContradiction; assumption)
          refine fin_lp ⟨i + 1, hil, ?_⟩ ?_ (by dsimp only; omega)
          · show a.take (i + 1) = b.take (i + 1)
            rw [List.take_succ_eq_append_getElem hil, List.take_succ_eq_append_getElem hil2, he, ho, hu, hne]
          · simp only [go_sem]
            try (first | rfl | exact ⟨rfl, rfl⟩ | (and_intros <;> first | rfl | omega))
      · rw [eq_comm, decide_eq_true_eq]
        rw [List.take_of_length_le (by omega), List.take_of_length_le (by omega)] at he
        exact he)
end Go.Proofs.YtjhoidgpecgfoaaDoor
