/- Part. -/
import Derived.Test.YtabadacjbkhmkaaGreatDoorCnYToRow
import Derived.Test.YtabadacjbkhmkaaGreatDoorEvFun4ToBox
import Derived.Test.YtabadacjbkhmkaaGreatDoorEvSimp
import Derived.Lib.LaidTab
import Derived.Test.YtabadacjbkhmkaaGreatDoorEvSortToSc
import Derived.Test.YtabadacjbkhmkaaGreatDoorCnSdToX
import Derived.Test.YtabadacjbkhmkaaGreatDoorCnTab
import Derived.WalkKit
import Derived.ProofKit
set_option linter.all false
namespace Go.Ev
open Go.RowKit Go.WideShapes Go.ChangeShapes
def lawPs (tys : List (Bool × Ty)) : List PK := tys.map fun p => .d p.1 p.2
def lawCon (tys : List (Bool × Ty)) (pre : dens (lawPs tys) → Prop) : Con := ⟨lawPs tys, [.d false .bool], pre, fun _ => (true, ()), id⟩
def szs : (tys : List (Bool × Ty)) → dens (lawPs tys) → Nat
 | [], _ => 0
 | p :: tys, x => sz p.2 x.1 + szs tys x.2
def tyBs (P : Program) : List TypeId → List (Bool × Ty) → Bool
 | [], [] => true
 | t :: ts, p :: tys => tyB P 20 t p.2 && (isAggB P t == p.1) && tyBs P ts tys
 | _, _ => false
theorem jA5 (m : Mem) : ∀ (t : Ty) (y : t.den), impl m t (expl t y) = some y
 | .int k, n => by simp [impl, expl, implI]
 | .bool, b => rfl
 | .str, s => rfl
 | .unit, _ => rfl
 | .sl t, xs => by simp [impl, expl, implL, view, bA8]
 | .pair a b, p => by
   simp only [impl, expl]; rw [List.take_append_of_le_length (by rw [rA1]; omega), List.take_of_length_le (by rw [rA1]; omega), List.drop_append_of_le_length (by rw [rA1]; omega), List.drop_of_length_le (by rw [rA1]; omega), List.nil_append]; rw [jA5 m a, jA5 m b]; rfl
section
variable {H : Type} {enc : TypeId × Value → H} {P : Program} {W : World} {B : DataW H → Nat} {BA : List (DataW H) → Nat}
theorem zC9 {d : Nat} {t : TypeId} {u : Ty} (h : tyB P d t u = true) : ∃ de, P.underlying t = some de ∧ (match de with | .struct _ | .int _ | .bool | .string | .slice _ => True | _ => False) := by
 cases d with
 | zero => cases h
 | succ d =>
   simp only [tyB, Bool.and_eq_true] at h; have h2 := h.2
   cases hu : P.underlying t with
   | none => rw [hu] at h2; cases h2
   | some de =>
     rw [hu] at h2; refine ⟨de, rfl, ?_⟩; cases de <;> first | trivial | (cases h2; done)
theorem oD0 (hB : Bulk B BA) {t : TypeId} {ag : Bool} {u : Ty} {v : Value} {d : DataW H} {ps : List MemPlace} {base : Nat} (hty : tyB P 20 t u = true) (hag : isAggB P t = ag) (hv : Value.okWide P W .any base t v)
 (h : DataW.Trod enc P W 0 (fun _ => true) true t v d ps) : ∃ y : u.den, repA ⟨W, fun _ => False, fun _ => .int .i64 0, fun _ => True⟩ (avOf ag (expl u y)) v ∧ sz u y ≤ B d ∧ Wf u y ∧ (ag = false → (expl u y).length = 1) := by
 obtain ⟨fuel, h⟩ := h; obtain ⟨y, h1, h2⟩ := yB4 hB fuel 20 t u _ _ hty h; have h3 := vA0 (x := ⟨W, fun _ => False, fun _ => .int .i64 0, fun _ => True⟩) u y _ h1; have hl := jA0 _ _ h3; have hwf := wA5 u y _ h1
 cases ag with
 | true =>
   refine ⟨y, ?_, h2, hwf, fun e => by cases e⟩; have : ∃ cs, v = .agg cs := by
    unfold Value.okWide at hv; unfold isAggB at hag
    cases hu : P.underlying t with
    | none => rw [hu] at hag; cases hag
    | some de =>
      rw [hu] at hv hag; cases de <;> simp [aggB] at hag <;> (obtain ⟨cs, e, _⟩ := hv; exact ⟨cs, e⟩)
   obtain ⟨cs, rfl⟩ := this; unfold avOf repA; simp only [if_true]
   exact ⟨cs.toList, by simp, h3⟩
 | false =>
   have : v.cells.toList = [v] := by
    unfold Value.okWide at hv; unfold isAggB at hag; obtain ⟨de, hu, hde⟩ := zC9 hty
    · rw [hu] at hv hag
      cases de <;> simp [aggB] at hag <;> simp only at hv hde <;> first
       | exact hde.elim
       | (unfold Cell.okWide Cell.ok at hv; rw [hu] at hv; cases v <;> first | rfl | exact False.elim hv)
   rw [this] at h3 hl; refine ⟨y, ?_, h2, hwf, fun _ => by simpa using hl.symm⟩
   match hx : expl u y, hl with
   | [c], _ =>
     rw [hx] at h3; obtain ⟨v', r, e, g1, _⟩ := repCs_cons.1 h3; cases e; unfold avOf repA; simp only [Bool.false_eq_true, if_false]; exact g1
theorem tB6 (hB : Bulk B BA) : ∀ (ts : List TypeId) (tys : List (Bool × Ty)) (vs : List Value) (ds : List (DataW H)) (ps : List MemPlace) (base : Nat), tyBs P ts tys = true → DataW.TrodAll enc P W 0 (fun _ => true) true ts vs ds ps →
 (∀ (j : Nat) (t : TypeId) (v : Value), ts[j]? = some t → vs[j]? = some v → Value.okWide P W .any base t v) → ∃ (x : dens (lawPs tys)) (avs : List AV), repAs ⟨W, fun _ => False, fun _ => .int .i64 0, fun _ => True⟩ avs vs ∧ rds (fun _ => .dead) (lawPs tys) avs = some x ∧ pids (fun _ => Blk.dead) (lawPs tys) avs = [] ∧ szs tys x ≤ BA ds ∧ pwf (lawPs tys) x
 | [], [], vs, ds, ps, base, _, h, _ => by
   obtain ⟨rfl, rfl, rfl⟩ := trodAll_nil h
   exact ⟨(), [], by unfold repAs; rfl, rfl, rfl, Nat.zero_le _, trivial⟩
 | [], _ :: _, _, _, _, _, h, _, _ => by cases h
 | _ :: _, [], _, _, _, _, h, _, _ => by cases h
 | t :: ts, (ag, u) :: tys, vs, ds, ps, base, hty, h, hv => by
   obtain ⟨v, vs, d, ds, p, q, rfl, rfl, rfl, h1, h2⟩ := trodAll_cons h; simp only [tyBs, Bool.and_eq_true, beq_iff_eq] at hty; obtain ⟨y, g1, g2, g3, g4⟩ := oD0 hB hty.1.1 hty.1.2 (hv 0 t v rfl rfl) h1; obtain ⟨x, avs, k1, k2, k3, k4, k5⟩ := tB6 hB ts tys vs ds q base hty.2 h2 (fun j t v ht hj => hv (j + 1) t v (by simpa using ht) (by simpa using hj)); refine ⟨(y, x), avOf ag (expl u y) :: avs, by unfold repAs; exact ⟨v, vs, rfl, g1, k1⟩, ?_, ?_, ?_, ⟨g3, k5⟩⟩
   · have : rd (fun _ => Blk.dead) (.d ag u) (avOf ag (expl u y)) = some y := by
      cases ag with
      | true => simp only [avOf, if_true, rd]; exact jA5 _ u y
      | false =>
        have := g4 rfl
        match hx : expl u y, this with
        | [c], _ =>
          simp only [avOf, Bool.false_eq_true, if_false, rd]; rw [← hx]; exact jA5 _ u y
     show implP (rd _ (.d ag u) _) (rds _ (lawPs tys) avs) = _; rw [this, k2]; rfl
   · show pid (fun _ => Blk.dead) (.d ag u) (avOf ag (expl u y)) ++ pids _ (lawPs tys) avs = []; have : pid (fun _ => Blk.dead) (.d ag u) (avOf ag (expl u y)) = [] := by
      cases avOf ag (expl u y) with
      | one c => cases c <;> rfl
      | _ => rfl
     rw [this]; exact k3
   · rw [hB.cons]; simp only [szs]; omega
theorem oA5 (hl : laidOutB P = true) {W' : World} {sp : Nat → Bool} : ∀ (ts : List TypeId) (vs : List Value) (ds : List (DataW H)) (ps : List MemPlace), (ts.all fun t => P.readableRec t && decide (t < P.types.size)) = true → DataW.TrodAll enc P W 0 (fun _ => true) true ts vs ds ps →
 (∀ p ∈ ps, W.sameAt W' p) → (∀ p ∈ ps, sp p.block = true) → DataW.TrodAll enc P W' 0 sp true ts vs ds ps
 | [], vs, ds, ps, _, h, _, _ => by obtain ⟨rfl, rfl, rfl⟩ := trodAll_nil h; exact trodAll_mk0
 | t :: ts, vs, ds, ps, hr, h, hs, hsp => by
   obtain ⟨v, vs, d, ds, p, q, rfl, rfl, rfl, h1, h2⟩ := trodAll_cons h; simp only [List.all_cons, Bool.and_eq_true, decide_eq_true_eq] at hr; exact ⟨p, q, WideElems.Trod_stays hl hr.1.1 hr.1.2 h1 (fun x hx => hs x (by simp [hx])) (fun x hx => hsp x (by simp [hx])),
    oA5 hl ts vs ds q hr.2 h2 (fun x hx => hs x (by simp [hx])) (fun x hx => hsp x (by simp [hx])), rfl⟩
theorem wC6 {f : Func} {s : ChangeSpec} {apart fresh handsOn again : Bool} {W' : World} {args : Array Value} {ds gs : List (DataW H)} {before : List MemPlace} (hl : laidOutB P = true) (hr : (f.params.toList.all fun t => P.readableRec t && decide (t < P.types.size)) = true)
 {tb : TypeId} (hres : f.resultTypes = #[tb]) (htb : P.underlying tb = some .bool) (hvars : s.vars = []) (hsf : (s.fn H (ds ++ gs)).results = [.lit (.bool true)] ∧ (s.fn H (ds ++ gs)).args = ds ∧ (s.fn H (ds ++ gs)).vars = [])
 (hW : DataW.Whole enc P f.params.toList s.vars apart W args.toList ds gs before) (hb : Below W.heap.size W W') : s.post enc P f apart fresh handsOn again W args (.bool true) W' := by
 have hlt : ∀ p ∈ before, p.block < W.heap.size := fun p hp => hW.lt p hp; obtain ⟨pa, pv, hA, hV, hps, hz, hn⟩ := hW; rw [hvars] at hV; obtain ⟨rfl, rfl⟩ := trodVars_none hV; have hbe : before = pa := by rw [hps, List.append_nil]
 subst hbe; have hargs : ∀ sp : Nat → Bool, (∀ p ∈ before, sp p.block = true) → DataW.TrodAll enc P W' 0 sp true f.params.toList args.toList ds before := fun sp hsp =>
  oA5 hl _ _ _ _ hr hA (fun p hp => hb.same (hlt p hp)) hsp
 have hbool : ∀ (b : Nat) (sp : Nat → Bool) (hd : Bool), DataW.TrodAll enc P W' b sp hd f.resultTypes.toList ((Value.bool true).resultList f.resultTypes.size) (s.fn H (ds ++ [])).results [] := fun b sp hd => by
  rw [hsf.1, hres]; exact trodAll_cons_mk (shut_bool htb true) trodAll_mk0
 refine ⟨ds, [], before, [], before, [], ⟨before, [], hA, by rw [hvars]; rfl, by simp, hz, hn⟩, hbool _ _ _, ?_, ?_, ?_, fun _ => ?_⟩
 · rw [hsf.2.1]; exact hargs _ (fun p hp => by simpa using hlt p hp)
 · rw [hvars, hsf.2.2]; rfl
 · exact World.keptBut_mono (fun p hp => ⟨hp, .inr (by simpa using hp)⟩) (hb.frame (· ∈ before))
 · refine ⟨ok_one hres rfl (okWide_bool_mk htb true), _, [], [] ++ before, ⟨[] ++ before, [], trodAll_append (hargs _ (fun _ _ => rfl)) (hbool _ _ _), by rw [hvars]; rfl, by simp, fun b off hp => ?_, fun ha => by simpa using hn ha⟩, fun p hp _ => by simpa using hp⟩; have hp' : MemPlace.cell b off ∈ before := by simpa using hp
   rw [hb.frozen (hlt _ hp')]; exact hz b off hp'
end
end Go.Ev

namespace Go.Ev
section
variable {P : Program} {T : Tab} {G : Env}
theorem vA4 (ht : TabOK P T) {gl : GVs} (hG : EnvG gl P G) (hm : P.follows .mixedOrders = true) {f : FuncId} {fn : Func} {c : Code} (hf : P.funcs[f]? = some fn) (hb : fn.body = some c) (C : Con) (ks : Nat)
 (hfine : fineC fn.ntmps c = true) (hn : pcOk C.ps = true) (hn2 : C.ps.length ≤ fn.ntmps) (hr : C.rs.length = fn.results.size) (hr4 : fn.results.size ≤ 4) (hv : rvalid C.rs = true)
 (h : ∀ x, C.pre x → pwf C.ps x → ∀ X : Wk, X.T = T → X.G = G → X.ks = ks → X.K = C.post T fn.results.toList x → evk X c (pslots 0 C.ps x) (pheap 0 C.ps x) 32 []) : CtrG gl P f C.ctr := by
 intro D gv hDS hgl cx hcd σ N m w fr avs vs hM hfr hreps hp; unfold Con.ctr Con.effO at hp ⊢
 cases hrd : rds m C.ps avs with
 | none => rw [hrd] at hp; exact hp.elim
 | some x =>
   rw [hrd] at hp; simp only at hp ⊢; split at hp
   case isFalse => exact hp.elim
   rename_i hnd; rw [if_pos hnd]; refine (fB1 ht hm hf hb C.ps C.rs ks hfine hn hn2 hr hr4 hv (hcd.1.symm ▸ hcd.2.symm ▸ hG.at_ hDS hgl) hM hfr hreps hrd hnd (Φ := fun y z => y = C.out x ∧ z = C.nw x) (fun hwf X hT hX hk hK => h x hp hwf X hT hX hk ?_)).mono fun e w' ⟨u, he, y, z, ⟨hy, hz⟩, hres⟩ => ⟨u, he, ?_⟩
   · rw [hK]; funext e st; unfold postR Con.post; have key : (∃ y z, (y = C.out x ∧ z = C.nw x) ∧ entR C.ps C.rs T fn.results.toList st y z) = entR C.ps C.rs T fn.results.toList st (C.out x) (C.nw x) := by
      apply propext; constructor
      · rintro ⟨y, z, ⟨rfl, rfl⟩, he⟩; exact he
      · exact fun he => ⟨_, _, ⟨rfl, rfl⟩, he⟩
     cases e with
     | exit => rfl
     | _ => simp only [key]
   · subst hy; subst hz; exact hres
end
theorem EnvG.nil {gl : GVs} {P : Program} {wf : List (Nat × Nat)} : EnvG gl P ⟨[], [], wf, [], gl⟩ := ⟨fun f C h => (by cases h), fun f C h => (by cases h), fun f C h => (by cases h), rfl⟩
theorem EnvG.cons {gl : GVs} {P : Program} {f : FuncId} {C : Ctr} {d : List (Nat × Ctr)} {r : List (Nat × RCtr)} {wf : List (Nat × Nat)} {it : List (Nat × ItC)} (h : CtrG gl P f C) (k : FnHas P f) (e : EnvG gl P ⟨d, r, wf, it, gl⟩) : EnvG gl P ⟨(f, C) :: d, r, wf, it, gl⟩ :=
 ⟨fun g D hg => (by
   simp only [findL] at hg; split at hg
   · rename_i q; subst q; cases hg; exact ⟨h, k⟩
   · exact e.d g D hg), e.r, e.it, e.gl⟩
theorem EnvG.rcons {gl : GVs} {P : Program} {f : FuncId} {C : RCtr} {d : List (Nat × Ctr)} {r : List (Nat × RCtr)} {wf : List (Nat × Nat)} {it : List (Nat × ItC)} (h : RCtrG gl P f C) (k : FnHas P f) (e : EnvG gl P ⟨d, r, wf, it, gl⟩) : EnvG gl P ⟨d, (f, C) :: r, wf, it, gl⟩ :=
 ⟨e.d, (fun g D hg => by
   simp only [findL] at hg; split at hg
   · rename_i q; subst q; cases hg; exact ⟨h, k⟩
   · exact e.r g D hg), e.it, e.gl⟩
def GlIn (gl : GVs) (W : World) : Prop := ∀ g v, findL gl g = some v → g < W.heap.size ∧
 ∃ (vs : Array Value) (e : TypeId) (hh : Nat × Nat), W.heap[g]? = some (.cells vs e hh) ∧ ∀ (w : World) (O : Nat → Prop), (∀ b, b < W.heap.size → w.heap[b]? = W.heap[b]? ∧ ¬ O b) → roAll (ro w O v.t) v.xs vs.toList
section
open Go.RowKit Go.WideShapes Go.ChangeShapes
variable {H : Type} {enc : TypeId × Value → H} {P : Program} {W : World} {B : DataW H → Nat} {BA : List (DataW H) → Nat}
theorem fB9 (hB : Bulk B BA) {f : FuncId} {tys : List (Bool × Ty)} {pre : dens (lawPs tys) → Prop} {gl : GVs} (hC : CtrG gl P f (lawCon tys pre).ctr) (hgl : GlIn gl W) {ts : List TypeId} (hty : tyBs P ts tys = true) {args : Array Value} {ds : List (DataW H)} {ps : List MemPlace} {base : Nat}
 (hA : DataW.TrodAll enc P W 0 (fun _ => true) true ts args.toList ds ps) (hv : ∀ (j : Nat) (t : TypeId) (v : Value), ts[j]? = some t → args.toList[j]? = some v → Value.okWide P W .any base t v)
 (hpre : ∀ x, szs tys x ≤ BA ds → pwf (lawPs tys) x → pre x) : Calls P f args W fun e W' => e = .returned (.bool true) ∧ Below W.heap.size W W' := by
 obtain ⟨x, avs, h1, h2, h3, h4, h5⟩ := tB6 hB ts tys _ ds ps base hty hA hv
 let cx : Cx := ⟨W, fun _ => False, fun _ => False, 0, fun _ => .int .i64 0, [], fun _ => none, False, gl⟩
 have hM : RepM cx (fun _ => .int .i64 0) (fun _ => True) (fun _ => .dead) W :=
  ⟨fun _ => trivial, fun _ _ => rfl, fun _ _ _ h => (by cases h), fun _ _ h => (by cases h), fun _ _ h => (by cases h), ⟨rfl, rfl, rfl, fun _ => Nat.le_refl _, Nat.le_refl _, fun _ _ _ => rfl⟩, fun _ h => h.elim, fun _ => rfl, fun _ h => absurd h (Nat.not_lt_zero _), (fun _ h => by cases h), fun g v h => by
    obtain ⟨q1, vs, e, hh, q2, q3⟩ := hgl g v h; exact ⟨id, id, q1, vs, e, hh, q2, fun w O hk => q3 w O fun b hb => hk b hb id id⟩⟩
 have hr : repAs (rx cx (fun _ => .int .i64 0) (fun _ => True) (fun _ => .dead) W) avs args.toList := by
  refine kA3 (x := ⟨W, fun _ => False, fun _ => .int .i64 0, fun _ => True⟩) (y := rx cx (fun _ => .int .i64 0) (fun _ => True) (fun _ => .dead) W) ⟨.ex fun b _ _ => ⟨?_, rfl⟩, fun _ _ => rfl, fun _ h => h⟩ avs _ h1; rintro (h | ⟨id, h, _⟩)
  · exact h
  · cases h
 have hp := hpre x h4 h5; have hE : (lawCon tys pre).ctr avs (fun _ => .dead) 0 = (lawCon tys pre).eff avs (fun _ => .dead) 0 x := by
  show (lawCon tys pre).effO avs (fun _ => .dead) 0 (rds (fun _ => .dead) (lawPs tys) avs) = _; rw [h2]; show (if okIds (pids _ (lawPs tys) avs) (rws _ (lawPs tys) avs) then _ else _) = _; rw [h3, if_pos ⟨List.nodup_nil, rfl⟩]
 have := hC False gl False.elim (fun _ _ h => h) cx ⟨rfl, rfl⟩ (fun _ => .int .i64 0) (fun _ => True) (fun _ => .dead) W 0 avs args.toList hM (fun _ _ _ => trivial) hr (by rw [hE]; exact hp); rw [Array.toArray_toList] at this; refine this.mono fun e W' he => ?_; obtain ⟨v, rfl, σ', g1, g2, g3, _⟩ := he; rw [hE] at g3; have hb : v = .bool true := wA3 g3; subst hb; exact ⟨rfl, g1.evo.os, g1.evo.tape, g1.evo.output, g1.evo.size, fun k hk => g1.evo.block k hk (fun h => h)⟩
end
end Go.Ev

set_option maxRecDepth 100000
set_option maxHeartbeats 8000000
namespace Go.Proofs.YtabadacjbkhmkaaGreatDoor
open Go.Ev
attribute [local go_sem] List.set_cons_succ List.set_cons_zero List.getD_cons_succ List.getD_cons_zero List.set_nil
def wordsL : List ByteArray := [ByteArray.mk #[], ByteArray.mk #[101, 110, 116, 114, 121], ByteArray.mk #[98, 101, 108, 116], ByteArray.mk #[115, 99, 114, 101, 101, 110], ByteArray.mk #[100, 105, 118, 101, 114, 116, 101, 114], ByteArray.mk #[108, 111, 111, 112], ByteArray.mk #[103, 97, 116, 101], ByteArray.mk #[115, 116, 111, 114, 101], ByteArray.mk #[99, 104, 117, 116, 101], ByteArray.mk #[109, 97, 110, 117, 97, 108]]
def gvs : GVs := [(0, ⟨.sl .str, [wordsL]⟩)]
abbrev Ln := Nd × Dv × List ByteArray
def bs0 : ByteArray := ByteArray.mk #[]
def atK (kd : Int) : Nat := if strN kd = true then 3 else 2
def wantK (kd : Int) : Nat := (if strN kd = true then 4 else 3) + (if exN kd = 0 then 0 else 1 + exN kd)
structure RdOk (W : List ByteArray) (kd : Int) : Prop where
 kq : kd = 1 ∨ kd = 6 ∨ kd = 8 ∨ kd = 9
 len : W.length = wantK kd
 hk : ∀ k : Nat, 1 ≤ k → k ≤ 9 → (wordsL.getD k bs0 = W.getD 0 bs0 ↔ (k : Int) = kd)
 d1 : ¬ W.getD 0 bs0 = ByteArray.mk #[112, 104, 111, 116, 111, 99, 101, 108, 108]
 d2 : ¬ W.getD 0 bs0 = ByteArray.mk #[115, 99, 97, 110, 110, 101, 114]
 nm : Nm1 (W.getD 1 bs0)
 n2 : Dg1 (W.getD 2 bs0)
 nz : Dg1 (W.getD (atK kd) bs0)
 gt : ¬ exN kd = 0 → W.getD (atK kd + 1) bs0 = ByteArray.mk #[62]
 ex : ∀ k, k < exN kd → Nm1 (W.getD (atK kd + 2 + k) bs0)
def kdW (W : List ByteArray) : Int := (((wordsL.findIdx (fun x => decide (x = W.getD 0 bs0))) : Nat) : Int)
def rdW (W : List ByteArray) : Ln :=
 ((W.getD 1 bs0, kdW W, (if strN (kdW W) = true then dgV (W.getD 2 bs0) else 0), dgV (W.getD (atK (kdW W)) bs0), []), (0, 0, 0), (W.drop (atK (kdW W) + 2)).take (exN (kdW W)))
def con58 : Con := { ps := [.d false .str], rs := [.d true yLN, .d false .bool], pre := fun (x : ByteArray × Unit) => x.1.size ≤ 5000 ∧ RdOk (spV x.1 32) (kdW (spV x.1 32)), out := fun (x : ByteArray × Unit) => (rdW (spV x.1 32), true, ()), nw := id }
theorem c58 : CtrG gvs Tryz.prog 58 con58.ctr :=
 vA4 (G := ⟨[(57, con57.ctr), (96, con96.ctr), (97, con97.ctr), (41, con41.ctr), (23, con23.ctr)], [], [], [], gvs⟩) eA0 (EnvG.cons c57.g has57 (EnvG.cons c96.g has96 (EnvG.cons c97.g has97 (EnvG.cons c41.g has41 (EnvG.cons c23.g has23 EnvG.nil))))) rfl Tryz.func58 rfl con58 374338524842919199182906955734017837091159298670589 (by kernel_rfl) (by decide) (by decide) rfl (by decide) rfl (by
  rintro ⟨s, _⟩ hpre hwf X hT hG hk hK; obtain ⟨hs, hr⟩ : s.size ≤ 5000 ∧ RdOk (spV s 32) (kdW (spV s 32)) := hpre
  (simp -implicitDefEqProofs (maxSteps := 4000000) only [go_sem, bP, con58, con57, con96, con97, con41, con23, hT, hG, hk, hK, Tryz.results58, gvs] at hwf ⊢); (try simp (disch := decide +kernel) only [drawn, true_and, and_true])
  clear hwf; obtain ⟨W, hW⟩ : ∃ W, spV s 32 = W := ⟨_, rfl⟩; rw [hW] at hr; simp only [hW]; obtain ⟨kd, hkd⟩ : ∃ kd, kdW W = kd := ⟨_, rfl⟩; rw [hkd] at hr
  try simp only [hkd]
  have hlen := hr.len; have hkq := hr.kq; have hnz : W.length = 3 ∨ 4 ≤ W.length := by
   rw [hlen]; unfold wantK strN exN
   rcases hkq with rfl | rfl | rfl | rfl <;> decide
  have e0 : ∀ z, W.getD 0 z = W.getD 0 bs0 := fun z => by simp [show 0 < W.length by omega]
  have e1 : ∀ z, W.getD 1 z = W.getD 1 bs0 := fun z => by simp [show 1 < W.length by omega]
  have e2 : ∀ z, W.getD 2 z = W.getD 2 bs0 := fun z => by simp [show 2 < W.length by omega]
  have hd1 := hr.d1; have hd2 := hr.d2; have hnm := hr.nm; have hn2 := hr.n2; refine ⟨hs, fun _ => ?_⟩; refine cA0 ⟨{ k : Nat // 1 ≤ k ∧ k ≤ 3 ∧ (1 < k → W.length = 3) }, 1000, fun k => [(2, .one (.loc 64 0)), (4, .one (.sl .str W false)), (5, .one (.loc 67 0)), (6, .one (.int .i64 (k.1 : Int)))], fun _ => [(64, .cells 113 [.undef, .undef, .undef, .undef, .undef, .undef, .undef, .undef, .undef]), (67, .cells 113 [.str bs0, .int .i64 0, .int .i64 0, .int .i64 0, .row 68, .int .i64 0, .int .i64 0, .int .i64 0, .row 69]), (68, .row 3 yI []), (69, .row 9 .str [])], fun k => 3 - k.1⟩ ⟨1, Nat.le_refl _, (show 1 ≤ 3 by decide), fun h => absurd h (Nat.lt_irrefl _)⟩ ?_ ?_
  · simp only [go_sem]
    try first | rfl | (and_intros <;> first | trivial | rfl | omega)
  · rintro ⟨k, (hk1 : 1 ≤ k), (hk3 : k ≤ 3), (hk4 : 1 < k → W.length = 3)⟩
    (simp -implicitDefEqProofs (maxSteps := 4000000) only [go_sem, bP, con58, con57, con96, con97, con41, con23, hT, hG, hk, hK, Tryz.results58, gvs]); (try simp (disch := decide +kernel) only [drawn, true_and, and_true])
    simp only [Int.toNat_zero, Int.reduceToNat, e0, e1, e2]; refine fun _ => ⟨fun hc => ?_, fun hx => ?_⟩
    · obtain ⟨hc1, hc2⟩ := hc; have hne : ¬ W.getD 0 bs0 = ([ByteArray.mk #[], ByteArray.mk #[112, 104, 111, 116, 111, 99, 101, 108, 108], ByteArray.mk #[115, 99, 97, 110, 110, 101, 114]] : List ByteArray).getD (k : Int).toNat ByteArray.empty := by
       rcases (by omega : k = 1 ∨ k = 2) with rfl | rfl
       · exact hd1
       · exact hd2
      simp only [hne, false_implies, true_and, not_false_eq_true, true_implies, forall_const]; have hl3 : W.length = 3 := by omega
      (repeat' with_reducible first | refine And.intro ?_ ?_ | intro _) <;> try first | with_reducible (first | assumption | omega | contradiction) | decide
      all_goals first
       | omega
       | exact hn2
       | (refine dA0 ⟨k + 1, by omega, by omega, fun _ => hl3⟩ ?_ (by dsimp only; omega)
          simp only [go_sem]
          try rfl
          done)
    · refine cA0 ⟨{ j : Nat // 1 ≤ j ∧ j ≤ 10 }, 2000, fun j => [(2, .one (.loc 64 0)), (4, .one (.sl .str W false)), (5, .one (.loc 67 0)), (9, .one (.int .i64 (j.1 : Int)))], fun j => [(64, .cells 113 [.undef, .undef, .undef, .undef, .undef, .undef, .undef, .undef, .undef]), (67, .cells 113 [.str bs0, .int .i64 (if kd < j.1 then kd else 0), .int .i64 0, .int .i64 0, .row 68, .int .i64 0, .int .i64 0, .int .i64 0, .row 69]), (68, .row 3 yI []), (69, .row 9 .str [])], fun j => 10 - j.1⟩ ⟨1, Nat.le_refl _, (show 1 ≤ 10 by decide)⟩ ?_ ?_
      · simp only [go_sem]; rw [if_neg (by show ¬ kd < ((1 : Nat) : Int); omega)]
        try first | rfl | (and_intros <;> first | trivial | rfl | omega)
      · rintro ⟨j, (hj1 : 1 ≤ j), (hj2 : j ≤ 10)⟩
        (simp -implicitDefEqProofs (maxSteps := 4000000) only [go_sem, bP, con58, con57, con96, con97, con41, con23, hT, hG, hk, hK, Tryz.results58, gvs]); (try simp (disch := decide +kernel) only [drawn, true_and, and_true])
        simp only [Int.toNat_zero, Int.reduceToNat, e0, e1, e2]; refine ⟨fun hj3 => ?_, fun hj3 => ?_⟩
        · have ejj : (j : Int).toNat = j := Int.toNat_natCast j; have ejk : ∀ z, wordsL.getD j z = wordsL.getD j bs0 := fun z => by
           have : wordsL.length = 10 := rfl; simp [show j < wordsL.length by omega]
          have hkj := hr.hk j hj1 (by omega); have ewl : wordsL.length = 10 := rfl; simp only [ejj, ejk, ewl]; refine fun _ => ⟨by omega, fun _ _ => ⟨by omega, fun _ _ => ⟨fun heq => ⟨by omega, ?_⟩, fun hne => ⟨by omega, ?_⟩⟩⟩⟩
          · have hkd' := hkj.1 heq; refine dA0 ⟨j + 1, by omega, by omega⟩ ?_ (by dsimp only; omega); simp only [go_sem]; rw [if_pos (by omega), ← hkd']
            try first | rfl | (and_intros <;> first | trivial | rfl | omega)
          · have hkd' : ¬ (j : Int) = kd := fun h => hne (hkj.2 h); have hif : (if kd < (j : Int) then kd else 0) = (if kd < ((j + 1 : Nat) : Int) then kd else 0) := by
             by_cases h : kd < (j : Int)
             · rw [if_pos h, if_pos (by omega)]
             · rw [if_neg h, if_neg (by omega)]
            refine dA0 ⟨j + 1, by omega, by omega⟩ ?_ (by dsimp only; omega); simp only [go_sem]; rw [← hif]
            try first | rfl | (and_intros <;> first | trivial | rfl | omega)
        · obtain rfl : j = 10 := by omega
          have hif : (if kd < ((10 : Nat) : Int) then kd else 0) = kd := if_pos (by omega); have hk0 : ¬ kd = 0 := by omega
          simp only [hif, hk0, not_false_eq_true, true_implies, true_and, false_or]; have hgt := hr.gt; have hex := hr.ex; have hst : (strN kd = true ∧ W.length = 4 + (1 + exN kd) ∧ 1 ≤ exN kd ∧ exN kd ≤ 2 ∧ atK kd = 3) ∨ (¬ strN kd = true ∧ W.length = 3 ∧ exN kd = 0 ∧ atK kd = 2) := by
           rw [hlen]; unfold wantK atK strN exN
           rcases hkq with rfl | rfl | rfl | rfl <;> decide
          have enz : ∀ z, W.getD 3 z = (W.getD 3 bs0 : ByteArray) ∨ W.length = 3 := fun z => by
           rcases hnz with h | h
           · exact .inr h
           · left; simp [show 3 < W.length by omega]
          refine fun _ => ⟨fun hs => ?_, fun hs => ?_⟩
          · obtain ⟨h1, h2, h3, h4, h5⟩ := hst.resolve_right (fun h => h.1 hs); have e3 := fun z => (enz z).resolve_right (by omega); have e4 : ∀ z, W.getD 4 z = W.getD 4 bs0 := fun z => by simp [show 4 < W.length by omega]
            have hg1 : ((exN kd : Nat) : Int) > 0 := by omega
            have hl1 : (W.length : Int) = 4 + (1 + (exN kd : Int)) := by omega
            have hnz3 : Dg1 (W.getD 3 bs0) := by have := hr.nz; rwa [h5] at this
            simp only [h5] at hgt hex; have hgt4 : W.getD 4 bs0 = ByteArray.mk #[62] := hgt (by omega); have et : ((3 : Int) + 1).toNat = 4 := rfl; simp only [hs, hg1, hl1, not_true, true_implies, false_implies, true_and, and_true, et, e3, e4, hgt4, not_true_eq_false, false_or]; refine ⟨by omega, by omega, fun _ => ⟨by omega, fun _ _ => ⟨hnm, by omega, fun _ _ => ⟨⟨by omega, fun _ _ => ⟨hn2, fun _ => ⟨by omega, fun _ _ => ⟨hnz3, fun _ => ⟨by omega, by omega, fun _ _ => ?_⟩⟩⟩⟩⟩, fun h => absurd h (by decide)⟩⟩⟩⟩; refine cA0 ⟨{ k : Nat // k ≤ exN kd }, 6000, fun k => [(2, .one (.loc 64 0)), (4, .one (.sl .str W false)), (5, .one (.loc 67 0)), (10, .one (.int .i64 ((exN kd : Nat) : Int))), (11, .one (.int .i64 3)), (16, .one (.int .i64 (k.1 : Int)))], fun k => [(64, .cells 113 [.undef, .undef, .undef, .undef, .undef, .undef, .undef, .undef, .undef]), (67, .cells 113 [.str (W.getD 1 bs0), .int .i64 kd, .int .i64 (dgV (W.getD 2 bs0)), .int .i64 (dgV (W.getD 3 bs0)), .row 68, .int .i64 0, .int .i64 0, .int .i64 0, .row 69]), (68, .row 3 yI []), (69, .row 9 .str ((W.drop 5).take k.1))], fun k => exN kd - k.1⟩ ⟨0, Nat.zero_le _⟩ ?_ ?_
            · simp only [go_sem]; rfl
            · rintro ⟨k, (hkk : k ≤ exN kd)⟩
              (simp -implicitDefEqProofs (maxSteps := 4000000) only [go_sem, bP, con58, con57, con96, con97, con41, con23, hT, hG, hk, hK, Tryz.results58, gvs]); (try simp (disch := decide +kernel) only [drawn, true_and, and_true])
              have etk : ((3 : Int) + 2 + (k : Int)).toNat = 5 + k := by omega
              simp only [etk]; refine ⟨fun hlt => ?_, fun hge => ?_⟩
              · have hk5 : 5 + k < W.length := by omega
                have e5 : ∀ z, W.getD (5 + k) z = W.getD (5 + k) bs0 := fun z => by simp [hk5]
                have hnk := hex k (by omega); have htk : (W.drop 5).take (k + 1) = (W.drop 5).take k ++ [W.getD (5 + k) bs0] := by
                 rw [List.take_add_one, List.getElem?_drop, gdE, List.getElem?_eq_getElem hk5]; rfl
                have htl : ((W.drop 5).take k).length ≤ k := List.length_take_le _ _; simp only [e5]; refine ⟨by omega, by omega, by omega, fun _ _ => ⟨hnk, by omega, by omega, by omega, fun _ _ => ⟨by omega, by omega, ?_⟩⟩⟩; refine dA0 ⟨k + 1, by omega⟩ ?_ (by dsimp only; omega); simp only [go_sem]; rw [htk]
                try first | rfl | (and_intros <;> first | trivial | rfl | omega)
              · have : k = exN kd := by omega
                subst this; have hrd : rdW W = ((W.getD 1 bs0, kd, dgV (W.getD 2 bs0), dgV (W.getD 3 bs0), []), (0, 0, 0), (W.drop 5).take (exN kd)) := by
                 unfold rdW; rw [hkd, h5]; simp [hs]
                rw [hW, hrd]; exact ⟨rfl, rfl, rfl, rfl, rfl, rfl, rfl, rfl, rfl⟩
          · obtain ⟨h1, h2, h3, h5⟩ := hst.resolve_left (fun h => by rw [hs] at h; exact absurd h.1 (by decide)); have hnz3 : Dg1 (W.getD 2 bs0) := by have := hr.nz; rwa [h5] at this
            have hl1 : (W.length : Int) = 3 := by omega
            have hgn : ¬ ((exN kd : Nat) : Int) > 0 := by omega
            have hex : ∀ k, k < exN kd → Nm1 (W.getD (4 + k) bs0) := fun k hkx => by omega
            simp only [hgn, hl1, hs, Bool.false_eq_true, not_false_eq_true, not_true_eq_false, false_implies, true_implies, forall_const, implies_true, true_and, and_true, false_and, true_or]; refine fun _ => ⟨by omega, fun _ _ => ⟨hnm, by omega, fun _ _ => ⟨by omega, fun _ _ => ⟨hnz3, fun _ => ?_⟩⟩⟩⟩; refine cA0 ⟨{ k : Nat // k ≤ exN kd }, 6000, fun k => [(2, .one (.loc 64 0)), (4, .one (.sl .str W false)), (5, .one (.loc 67 0)), (10, .one (.int .i64 ((exN kd : Nat) : Int))), (11, .one (.int .i64 2)), (16, .one (.int .i64 (k.1 : Int)))], fun k => [(64, .cells 113 [.undef, .undef, .undef, .undef, .undef, .undef, .undef, .undef, .undef]), (67, .cells 113 [.str (W.getD 1 bs0), .int .i64 kd, .int .i64 (0), .int .i64 (dgV (W.getD 2 bs0)), .row 68, .int .i64 0, .int .i64 0, .int .i64 0, .row 69]), (68, .row 3 yI []), (69, .row 9 .str ((W.drop 4).take k.1))], fun k => exN kd - k.1⟩ ⟨0, Nat.zero_le _⟩ ?_ ?_
            · simp only [go_sem]; rfl
            · rintro ⟨k, (hkk : k ≤ exN kd)⟩
              (simp -implicitDefEqProofs (maxSteps := 4000000) only [go_sem, bP, con58, con57, con96, con97, con41, con23, hT, hG, hk, hK, Tryz.results58, gvs]); (try simp (disch := decide +kernel) only [drawn, true_and, and_true])
              have etk : ((2 : Int) + 2 + (k : Int)).toNat = 4 + k := by omega
              simp only [etk]; refine ⟨fun hlt => ?_, fun hge => ?_⟩
              · have hk5 : 4 + k < W.length := by omega
                have e5 : ∀ z, W.getD (4 + k) z = W.getD (4 + k) bs0 := fun z => by simp [hk5]
                have hnk := hex k (by omega); have htk : (W.drop 4).take (k + 1) = (W.drop 4).take k ++ [W.getD (4 + k) bs0] := by
                 rw [List.take_add_one, List.getElem?_drop, gdE, List.getElem?_eq_getElem hk5]; rfl
                have htl : ((W.drop 4).take k).length ≤ k := List.length_take_le _ _; simp only [e5]; refine ⟨by omega, by omega, by omega, fun _ _ => ⟨hnk, by omega, by omega, by omega, fun _ _ => ⟨by omega, by omega, ?_⟩⟩⟩; refine dA0 ⟨k + 1, by omega⟩ ?_ (by dsimp only; omega); simp only [go_sem]; rw [htk]
                try first | rfl | (and_intros <;> first | trivial | rfl | omega)
              · have : k = exN kd := by omega
                subst this; have hrd : rdW W = ((W.getD 1 bs0, kd, 0, dgV (W.getD 2 bs0), []), (0, 0, 0), (W.drop 4).take (exN kd)) := by
                 unfold rdW; rw [hkd, h5]; simp [hs]
                rw [hW, hrd]; exact ⟨rfl, rfl, rfl, rfl, rfl, rfl, rfl, rfl, rfl⟩)
end Go.Proofs.YtabadacjbkhmkaaGreatDoor

set_option maxRecDepth 100000
set_option maxHeartbeats 8000000
namespace Go.Proofs.YtabadacjbkhmkaaGreatDoor
open Go.Ev
def exT : ByteArray := ByteArray.mk #[101, 110, 116, 114, 121, 32, 65, 32, 49, 32, 48, 32, 62, 32, 71, 10, 103, 97, 116, 101, 32, 71, 32, 49, 32, 48, 32, 62, 32, 77, 32, 67, 10, 99, 104, 117, 116, 101, 32, 67, 32, 49, 10, 109, 97, 110, 117, 97, 108, 32, 77, 32, 48, 10]
def exTL : List ByteArray := [ByteArray.mk #[101, 110, 116, 114, 121, 32, 65, 32, 49, 32, 48, 32, 62, 32, 71], ByteArray.mk #[103, 97, 116, 101, 32, 71, 32, 49, 32, 48, 32, 62, 32, 77, 32, 67], ByteArray.mk #[99, 104, 117, 116, 101, 32, 67, 32, 49], ByteArray.mk #[109, 97, 110, 117, 97, 108, 32, 77, 32, 48]]
theorem dD5 : spV exT 10 = exTL ++ [bs0] := by decide +kernel
def exW0 : List ByteArray := [ByteArray.mk #[101, 110, 116, 114, 121], ByteArray.mk #[65], ByteArray.mk #[49], ByteArray.mk #[48], ByteArray.mk #[62], ByteArray.mk #[71]]
def exW1 : List ByteArray := [ByteArray.mk #[103, 97, 116, 101], ByteArray.mk #[71], ByteArray.mk #[49], ByteArray.mk #[48], ByteArray.mk #[62], ByteArray.mk #[77], ByteArray.mk #[67]]
def exW2 : List ByteArray := [ByteArray.mk #[99, 104, 117, 116, 101], ByteArray.mk #[67], ByteArray.mk #[49]]
def exW3 : List ByteArray := [ByteArray.mk #[109, 97, 110, 117, 97, 108], ByteArray.mk #[77], ByteArray.mk #[48]]
def exWL : List (List ByteArray) := [exW0, exW1, exW2, exW3]
theorem sD5 : ∀ i, i < 4 → spV (exTL.getD i bs0) 32 = exWL.getD i [] := by decide +kernel
def nmL (c : Int) : ByteArray := ByteArray.mk #[c.toNat.toUInt8]
def exLn : List Ln := [((nmL 65, 1, 1, 0, []), (0, 0, 0), [nmL 71]), ((nmL 71, 6, 1, 0, []), (0, 0, 0), [nmL 77, nmL 67]), ((nmL 67, 8, 0, 1, []), (0, 0, 0), []), ((nmL 77, 9, 0, 0, []), (0, 0, 0), [])]
def ln0 : Ln := (nd0, (0, 0, 0), [])
instance i1Nd : DecidableEq (ByteArray × Int × Int × Int × List Int) := fun a b => instDecidableEqProd a b
instance i2Ln : DecidableEq ((Int × Int × Int) × List ByteArray) := fun a b => instDecidableEqProd a b
instance i3Ln : DecidableEq Ln := fun a b => instDecidableEqProd (α := ByteArray × Int × Int × Int × List Int) (β := (Int × Int × Int) × List ByteArray) a b
theorem rD5 : ∀ i, i < 4 → rdW (exWL.getD i []) = exLn.getD i ln0 := by decide +kernel
def exEx : List (List Int) := [[1], [3, 2], [], []]
def exN' (i k : Nat) : List Nd := (List.range 4).map (fun j => let x := (exLn.getD j ln0).1; (x.1, x.2.1, x.2.2.1, x.2.2.2.1, if j < i then exEx.getD j [] else if j = i then (exEx.getD j []).take k else []))
def exLy : Ly := (exN' 4 0, [])
theorem cB3 : ∀ c ∈ [65, 71, 67, 77], nmL c = strOf [c] := by decide +kernel
theorem zA7 : ∀ c ∈ [65, 71, 67, 77], Nm1 (nmL c) := fun c hc => ⟨c, by
 simp only [List.mem_cons, List.not_mem_nil, or_false] at hc; omega, by
 simp only [List.mem_cons, List.not_mem_nil, or_false] at hc; omega, cB3 c hc⟩
theorem vD4 : ∀ i, i < 4 → RdOk (exWL.getD i []) (kdW (exWL.getD i [])) := fun i hi => by
 have d1 : ∀ W ∈ exWL, Dg1 (W.getD 2 bs0) ∧ Dg1 (W.getD (atK (kdW W)) bs0) ∨ kdW W = 8 ∨ kdW W = 9 := by unfold Dg1; decide +kernel
 rcases (by omega : i = 0 ∨ i = 1 ∨ i = 2 ∨ i = 3) with rfl | rfl | rfl | rfl
 · have hk : kdW exW0 = 1 := by decide +kernel
   show RdOk exW0 (kdW exW0); rw [hk]; exact ⟨.inl rfl, by decide +kernel, fun k h1 h2 => (by decide +kernel : ∀ k : Nat, k ≤ 9 → (1 ≤ k → (wordsL.getD k bs0 = exW0.getD 0 bs0 ↔ (k : Int) = 1))) k h2 h1, by decide +kernel, by decide +kernel, zA7 65 (by decide), by unfold Dg1; decide +kernel, by unfold Dg1; decide +kernel, fun _ => by decide +kernel, fun k hk => by
    obtain rfl : k = 0 := by have : exN 1 = 1 := rfl; omega
    exact zA7 71 (by decide)⟩
 · have hk : kdW exW1 = 6 := by decide +kernel
   show RdOk exW1 (kdW exW1); rw [hk]; exact ⟨.inr (.inl rfl), by decide +kernel, fun k h1 h2 => (by decide +kernel : ∀ k : Nat, k ≤ 9 → (1 ≤ k → (wordsL.getD k bs0 = exW1.getD 0 bs0 ↔ (k : Int) = 6))) k h2 h1, by decide +kernel, by decide +kernel, zA7 71 (by decide), by unfold Dg1; decide +kernel, by unfold Dg1; decide +kernel, fun _ => by decide +kernel, fun k hk => by
    have : exN 6 = 2 := rfl
    rcases (by omega : k = 0 ∨ k = 1) with rfl | rfl
    · exact zA7 77 (by decide)
    · exact zA7 67 (by decide)⟩
 · have hk : kdW exW2 = 8 := by decide +kernel
   show RdOk exW2 (kdW exW2); rw [hk]; exact ⟨.inr (.inr (.inl rfl)), by decide +kernel, fun k h1 h2 => (by decide +kernel : ∀ k : Nat, k ≤ 9 → (1 ≤ k → (wordsL.getD k bs0 = exW2.getD 0 bs0 ↔ (k : Int) = 8))) k h2 h1, by decide +kernel, by decide +kernel, zA7 67 (by decide), by unfold Dg1; decide +kernel, by unfold Dg1; decide +kernel, fun h => absurd rfl h, fun k hk => absurd hk (Nat.not_lt_zero _)⟩
 · have hk : kdW exW3 = 9 := by decide +kernel
   show RdOk exW3 (kdW exW3); rw [hk]; exact ⟨.inr (.inr (.inr rfl)), by decide +kernel, fun k h1 h2 => (by decide +kernel : ∀ k : Nat, k ≤ 9 → (1 ≤ k → (wordsL.getD k bs0 = exW3.getD 0 bs0 ↔ (k : Int) = 9))) k h2 h1, by decide +kernel, by decide +kernel, zA7 77 (by decide), by unfold Dg1; decide +kernel, by unfold Dg1; decide +kernel, fun h => absurd rfl h, fun k hk => absurd hk (Nat.not_lt_zero _)⟩
theorem mD1 : ∀ i, i < 4 → ∀ k, k < (exEx.getD i []).length → idxV (fun y : Nd => decide (y.1 = (exLn.getD i ln0).2.2.getD k bs0)) (exN' i k) = (exEx.getD i []).getD k 0 := by decide +kernel
theorem vD3 : ∀ i, i < 4 → (exLn.getD i ln0).2.2.length = (exEx.getD i []).length := by decide +kernel
theorem oD3 : ∀ i, i < 4 → ∀ k, k < (exEx.getD i []).length → (exN' i k).set i (((exN' i k).getD i nd0).1, ((exN' i k).getD i nd0).2.1, ((exN' i k).getD i nd0).2.2.1, ((exN' i k).getD i nd0).2.2.2.1, ((exN' i k).getD i nd0).2.2.2.2 ++ [(exEx.getD i []).getD k 0]) = exN' i (k + 1) := by decide +kernel
theorem eD5 : ∀ i, i < 4 → ∀ k, k < (exEx.getD i []).length → (((exN' i k).getD i nd0).2.2.2.2).length ≤ 3 := by decide +kernel
theorem qD5 : ∀ i, i < 4 → ∀ k, k < (exEx.getD i []).length → 0 ≤ (exEx.getD i []).getD k 0 ∧ (exEx.getD i []).getD k 0 < 4 := by decide +kernel
theorem kD2 : ∀ i, i < 4 → exN' i (exEx.getD i []).length = exN' (i + 1) 0 := by decide +kernel
theorem rD4 : exN' 4 0 = [(nmL 65, 1, 1, 0, [1]), (nmL 71, 6, 1, 0, [3, 2]), (nmL 67, 8, 0, 1, []), (nmL 77, 9, 0, 0, [])] := by decide +kernel
theorem iA4 : GoodL (exN' 4 0, []) := by
 rw [rD4]; refine ⟨by decide, by decide, ?_, by decide, ?_, ?_, rfl, ⟨by decide, fun d hd => (by simp at hd), List.nodup_nil⟩⟩
 · intro i hi; have hi : i < 4 := hi
   rcases (by omega : i = 0 ∨ i = 1 ∨ i = 2 ∨ i = 3) with rfl | rfl | rfl | rfl
   · refine ⟨by decide, by decide, by decide, by decide, by decide, by decide, ?_, ?_, by decide, by decide, ?_⟩
     · intro k e h
       rcases k with _ | k
       · obtain rfl : (1 : Int) = e := Option.some.inj h; exact .inr ⟨by decide, by decide, by decide⟩
       · simp at h
     · intro a b h; simp at h
     · intro k e h
       rcases k with _ | k
       · obtain rfl : (1 : Int) = e := Option.some.inj h
         decide
       · simp at h
   · refine ⟨by decide, by decide, by decide, by decide, by decide, by decide, ?_, ?_, by decide, by decide, ?_⟩
     · intro k e h
       rcases k with _ | _ | k
       · obtain rfl : (3 : Int) = e := Option.some.inj h; exact .inr ⟨by decide, by decide, by decide⟩
       · obtain rfl : (2 : Int) = e := Option.some.inj h; exact .inr ⟨by decide, by decide, by decide⟩
       · simp at h
     · intro a b h; have h : ([3, 2] : List Int) = [a, b] := h
       injection h with h1 h2
       injection h2 with h2 _
       omega
     · intro k e h
       rcases k with _ | _ | k
       · obtain rfl : (3 : Int) = e := Option.some.inj h
         decide
       · obtain rfl : (2 : Int) = e := Option.some.inj h
         decide
       · simp at h
   · exact ⟨by decide, by decide, by decide, by decide, by decide, by decide, fun k e h => by simp at h, fun a b h => by simp at h, by decide, by decide, fun k e h => by simp at h⟩
   · exact ⟨by decide, by decide, by decide, by decide, by decide, by decide, fun k e h => by simp at h, fun a b h => by simp at h, by decide, by decide, fun k e h => by simp at h⟩
 · intro i hi; have hi : i < 4 := hi
   rcases (by omega : i = 0 ∨ i = 1 ∨ i = 2 ∨ i = 3) with rfl | rfl | rfl | rfl
   · exact ⟨65, by decide, by decide, cB3 _ (by decide)⟩
   · exact ⟨71, by decide, by decide, cB3 _ (by decide)⟩
   · exact ⟨67, by decide, by decide, cB3 _ (by decide)⟩
   · exact ⟨77, by decide, by decide, cB3 _ (by decide)⟩
 · exact fun i j hi hj => (by decide +kernel : ∀ i, i < 4 → ∀ j, j < 4 → (([(nmL 65, 1, 1, 0, [1]), (nmL 71, 6, 1, 0, [3, 2]), (nmL 67, 8, 0, 1, []), (nmL 77, 9, 0, 0, [])] : List Nd).getD i nd0).1 = (([(nmL 65, 1, 1, 0, [1]), (nmL 71, 6, 1, 0, [3, 2]), (nmL 67, 8, 0, 1, []), (nmL 77, 9, 0, 0, [])] : List Nd).getD j nd0).1 → i = j) i hi j hj
def con28 : Con := { ps := [.d false .str], rs := [.d true yLY, .d false yI, .d false yI], pre := fun (x : ByteArray × Unit) => x.1 = exT, out := fun _ => (exLy, 0, 0, ()), nw := id }
theorem c28 : CtrG gvs Tryz.prog 28 con28.ctr :=
 vA4 (G := ⟨[(57, con57.ctr), (58, con58.ctr), (59, con59.ctr), (51, con51.ctr)], [], [], [], gvs⟩) eA0 (EnvG.cons c57.g has57 (EnvG.cons c58 has58 (EnvG.cons c59.g has59 (EnvG.cons c51.g has51 EnvG.nil)))) rfl Tryz.func28 rfl con28 91343852503987270450680025140626748208306257917 (by kernel_rfl) (by decide) (by decide) rfl (by decide) rfl (by
  rintro ⟨s, _⟩ hpre hwf X hT hG hk hK; have hs : s = exT := hpre
  (simp -implicitDefEqProofs (maxSteps := 4000000) only [go_sem, bP, con28, con57, con58, con59, con51, hT, hG, hk, hK, Tryz.results28, gvs] at hwf ⊢); (try simp (disch := decide +kernel) only [drawn, true_and, and_true])
  clear hwf; have hsp : spV s 10 = exTL ++ [bs0] := by rw [hs]; exact dD5
  have hsz : s.size ≤ 5000 ∧ s.size ≤ 4096 := by rw [hs]; decide
  simp only [hsp]; have el : (((exTL ++ [bs0]).length : Nat) : Int) = 5 := rfl; simp only [el]; refine fun _ => ⟨fun h => absurd h (by omega), fun _ => ⟨hsz.1, fun _ _ => ⟨by omega, by omega, fun _ _ _ => ⟨by omega, by omega, ?_⟩⟩⟩⟩; have ell : exTL.length = 4 := rfl; have eln : exLn.length = 4 := rfl; refine cA0 ⟨{ i : Nat // i ≤ 4 }, 1000, fun i => [(0, .one (.str s)), (2, .one (.loc 64 0)), (3, .one (.int .i64 0)), (4, .one (.int .i64 0)), (5, .one (.sl .str exTL false)), (6, .one (.str bs0)), (7, .one (.row 71)), (8, .one (.loc 72 0)), (9, .one (.int .i64 (i.1 : Int)))], fun i => [(64, .cells 30 [.row 65, .row 66]), (65, .row 56 yNO []), (66, .row 111 yPL []), (71, .row 113 yLN (exLn.take i.1)), (72, .cells 30 [.row 73, .row 74]), (73, .row 56 yNO ((exN' 0 0).take i.1)), (74, .row 111 yPL [])], fun i => 4 - i.1⟩ ⟨0, Nat.zero_le _⟩ ?_ ?_
  · simp only [go_sem]; exact ⟨rfl, rfl, rfl⟩
  · rintro ⟨i, (hi : i ≤ 4)⟩
    (simp -implicitDefEqProofs (maxSteps := 4000000) only [go_sem, bP, con28, con57, con58, con59, con51, hT, hG, hk, hK, Tryz.results28, gvs]); (try simp (disch := decide +kernel) only [drawn, true_and, and_true])
    simp only [ell, Int.toNat_natCast]; refine fun _ => ⟨fun hlt => ?_, fun hge => ?_⟩
    · have hi4 : i < 4 := by omega
      have ed : exTL.getD i ByteArray.empty = exTL.getD i bs0 := rfl; have h5 : (exTL.getD i bs0).size ≤ 5000 := (by decide +kernel : ∀ i, i < 4 → (exTL.getD i bs0).size ≤ 5000) i hi4; have hr := vD4 i hi4; have hln := rD5 i hi4; have hk0 : (exLn.getD i ln0).1.2.1 ≠ 0 := (by decide +kernel : ∀ i, i < 4 → (exLn.getD i ln0).1.2.1 ≠ 0) i hi4; have ht : exLn.take (i + 1) = exLn.take i ++ [exLn.getD i ln0] := (by decide +kernel : ∀ i, i < 4 → exLn.take (i + 1) = exLn.take i ++ [exLn.getD i ln0]) i hi4; have ht2 : (exN' 0 0).take (i + 1) = (exN' 0 0).take i ++ [(exLn.getD i ln0).1] := (by decide +kernel : ∀ i, i < 4 → (exN' 0 0).take (i + 1) = (exN' 0 0).take i ++ [(exLn.getD i ln0).1]) i hi4; have hl1 : (exLn.take i).length = i := by rw [List.length_take, eln]; omega
      have hl2 : ((exN' 0 0).take i).length = i := by rw [List.length_take, show (exN' 0 0).length = 4 from rfl]; omega
      simp only [ed, sD5 i hi4, hln, hl1, hl2]; generalize exLn.getD i ln0 = ln at *; refine ⟨by omega, fun _ _ => ⟨⟨h5, hr⟩, fun _ _ => ⟨fun h => absurd h.2 (by decide), fun _ => ⟨by omega, fun _ => ⟨by omega, by omega, ?_⟩, fun h => absurd h hk0⟩⟩⟩⟩; refine dA0 ⟨i + 1, by omega⟩ ?_ (by dsimp only; omega); simp only [go_sem]; rw [ht, ht2]
      try first | rfl | (and_intros <;> first | trivial | rfl | omega)
    · obtain rfl : i = 4 := by omega
      have hz1 : exLn.take 4 = exLn := rfl; have hz2 : (exN' 0 0).take 4 = exN' 0 0 := rfl; simp only [hz1, hz2]; refine ⟨fun h => absurd rfl h, fun _ => ?_⟩; refine cA0 ⟨{ i : Nat // i ≤ 4 }, 2000, fun i => [(2, .one (.loc 64 0)), (3, .one (.int .i64 0)), (4, .one (.int .i64 0)), (7, .one (.row 71)), (8, .one (.loc 72 0)), (12, .one (.int .i64 (i.1 : Int)))], fun i => [(64, .cells 30 [.row 65, .row 66]), (65, .row 56 yNO []), (66, .row 111 yPL []), (71, .row 113 yLN exLn), (72, .cells 30 [.row 73, .row 74]), (73, .row 56 yNO (exN' i.1 0)), (74, .row 111 yPL [])], fun i => 4 - i.1⟩ ⟨0, Nat.zero_le _⟩ ?_ ?_
      · simp only [go_sem]; rfl
      · rintro ⟨i, (hi : i ≤ 4)⟩
        (simp -implicitDefEqProofs (maxSteps := 4000000) only [go_sem, bP, con28, con57, con58, con59, con51, hT, hG, hk, hK, Tryz.results28, gvs]); (try simp (disch := decide +kernel) only [drawn, true_and, and_true])
        simp only [eln, Int.toNat_natCast]; refine fun _ => ⟨fun hlt => ?_, fun hge => ?_⟩
        · have hi4 : i < 4 := by omega
          refine cA0 ⟨{ k : Nat // k ≤ (exEx.getD i []).length }, 3000, fun k => [(2, .one (.loc 64 0)), (3, .one (.int .i64 0)), (4, .one (.int .i64 0)), (7, .one (.row 71)), (8, .one (.loc 72 0)), (12, .one (.int .i64 (i : Int))), (13, .one (.int .i64 (k.1 : Int)))], fun k => [(64, .cells 30 [.row 65, .row 66]), (65, .row 56 yNO []), (66, .row 111 yPL []), (71, .row 113 yLN exLn), (72, .cells 30 [.row 73, .row 74]), (73, .row 56 yNO (exN' i k.1)), (74, .row 111 yPL [])], fun k => (exEx.getD i []).length - k.1⟩ ⟨0, Nat.zero_le _⟩ ?_ ?_
          · simp only [go_sem]; rfl
          · rintro ⟨k, (hkk : k ≤ (exEx.getD i []).length)⟩
            (simp -implicitDefEqProofs (maxSteps := 4000000) only [go_sem, bP, con28, con57, con58, con59, con51, hT, hG, hk, hK, Tryz.results28, gvs]); (try simp (disch := decide +kernel) only [drawn, true_and, and_true])
            simp only [eln, Int.toNat_natCast]; have ed : exLn.getD i ((ByteArray.empty, 0, 0, 0, []), (0, 0, 0), []) = exLn.getD i ln0 := rfl; have ed2 : (exN' i k).getD i (ByteArray.empty, 0, 0, 0, []) = (exN' i k).getD i nd0 := rfl; have eb : ((exLn.getD i ln0).2.2).getD k ByteArray.empty = ((exLn.getD i ln0).2.2).getD k bs0 := rfl; have enl : (exN' i k).length = 4 := by unfold exN'; rw [List.length_map, List.length_range]
            have hll := vD3 i hi4; simp only [ed, ed2, enl]; simp only [hll, eb]; refine ⟨by omega, fun _ => ⟨by omega, fun _ _ => ⟨fun hlt2 => ?_, fun hge2 => ?_⟩⟩⟩
            · have hk4 : k < (exEx.getD i []).length := by omega
              have hf := mD1 i hi4 k hk4; have hx := oD3 i hi4 k hk4; have hxl := eD5 i hi4 k hk4; have he0 := qD5 i hi4 k hk4; simp only [hf]; generalize (exEx.getD i []).getD k 0 = e at *; refine ⟨by omega, fun _ => ⟨by omega, fun _ => ⟨by omega, fun _ _ _ => ⟨fun h => absurd h (by omega), fun _ _ => ⟨fun _ => ⟨by omega, fun _ => ⟨by omega, fun _ => ⟨by omega, by omega, by omega, fun _ => ⟨by omega, by omega, ?_⟩⟩⟩⟩, fun h => absurd h (by omega)⟩⟩⟩⟩⟩; refine dA0 ⟨k + 1, by omega⟩ ?_ (by dsimp only; omega); simp only [go_sem]; rw [← hx]
              try first | rfl | (and_intros <;> first | trivial | rfl | omega)
            · have : k = (exEx.getD i []).length := by omega
              subst this; refine ⟨by omega, ?_⟩; refine dA0 ⟨i + 1, by omega⟩ ?_ (by dsimp only; omega); simp only [go_sem]; rw [kD2 i hi4]
              try first | rfl | (and_intros <;> first | trivial | rfl | omega)
        · obtain rfl : i = 4 := by omega
          exact ⟨iA4, fun _ => ⟨fun h => h.elim, rfl, rfl⟩⟩)
def exB0 : Be := newB (exN' 4 0) 0
def exB1 : Be := (ebB exB0 1).1
def exB2 : Be := (stepB (exN' 4 0) [0, 0, 0, 0] exB1).1
theorem qD4 : (ebB exB0 1).2 = 0 := by decide +kernel
theorem nD5 : (stepB (exN' 4 0) [0, 0, 0, 0] exB1).2 = 0 := by decide +kernel
theorem eD3 : exB2.2.length ≤ 1000000 := by decide +kernel
theorem bD5 : decL (exN' 4 0) exB2.2 [2] [true] [] [] 4 = [0, 1, 0, 0] := by decide +kernel
theorem lD5 : decL (exN' 4 0) exB2.2 [2] [false] [] [] 4 = [0, 0, 0, 0] := by decide +kernel
theorem vD2 : CmdOk (exN' 4 0) [0, 0, 0, 0] := ⟨rfl, (by decide +kernel : ∀ i, i < 4 → cmdOk ((exN' 4 0).getD i nd0) (([0, 0, 0, 0] : List Int).getD i 0) = true)⟩
def con7 : Con := { ps := [], rs := [.d false .bool], pre := fun _ => True, out := fun _ => (true, ()), nw := id }
theorem c7 : CtrG gvs Tryz.prog 7 con7.ctr :=
 vA4 (G := ⟨[(28, con28.ctr), (21, con21.ctr), (22, con22.ctr), (25, con25.ctr), (14, con14.ctr), (13, con13.ctr)], [], [], [], gvs⟩) eA0 (EnvG.cons c28 has28 (EnvG.cons c21.g has21 (EnvG.cons c22.g has22 (EnvG.cons c25.g has25 (EnvG.cons c14.g has14 (EnvG.cons c13.g has13 EnvG.nil)))))) rfl Tryz.func7 rfl con7 1019 (by kernel_rfl) (by decide) (by decide) rfl (by decide) rfl (by
  rintro _ hpre hwf X hT hG hk hK
  (simp -implicitDefEqProofs (maxSteps := 4000000) only [go_sem, bP, con7, con28, con21, con22, con25, con14, con13, hT, hG, hk, hK, Tryz.results7, gvs] at hwf ⊢)
  clear hwf; have eL : exLy.1 = exN' 4 0 := rfl; have e4 : (exN' 4 0).length = 4 := rfl; simp only [eL]; have hb0 : BeOk (exN' 4 0) 0 exB0 := mC1 iA4 (by decide) (by decide); have hb1 : BeOk (exN' 4 0) 0 exB1 := iC8 iA4 hb0 1; have r0 : newB (exN' 4 0) 0 = exB0 := rfl; have r1 : (ebB exB0 1).1 = exB1 := rfl; have r2 : (stepB (exN' 4 0) [0, 0, 0, 0] exB1).1 = exB2 := rfl; simp only [r0]; simp only [r1, qD4]; simp only [r2, nD5, e4, bD5, lD5]; refine ⟨rfl, fun _ => ⟨⟨iA4, by decide, by decide⟩, fun _ => ⟨⟨iA4, hb0.mono (Nat.zero_le _), by decide, by decide⟩, fun _ => ⟨⟨iA4, hb1.mono (Nat.zero_le _), vD2⟩, fun _ => ?_⟩⟩⟩⟩; exact ⟨⟨iA4, eD3⟩, fun _ => ⟨⟨iA4, eD3⟩, fun _ => ⟨⟨⟨trivial, trivial⟩, trivial⟩, trivial⟩⟩⟩)
def con3 : Con := { ps := [.d false (.sl yI), .d false (.sl yI), .d false (.sl .bool), .d false (.sl .bool), .d false (.sl .bool)], rs := [.d false .bool], pre := fun _ => True, out := fun _ => (true, ()), nw := id }
theorem c3 : CtrG gvs Tryz.prog 3 con3.ctr :=
 vA4 (G := ⟨[(7, con7.ctr), (8, con8.ctr), (10, con10.ctr), (11, con11.ctr), (12, con12.ctr), (13, con13.ctr), (14, con14.ctr), (15, con15.ctr)], [(9, con9.rctr)], [], [], gvs⟩) eA0 (EnvG.cons c7 has7 (EnvG.cons c8.g has8 (EnvG.cons c10.g has10 (EnvG.cons c11.g has11 (EnvG.cons c12.g has12 (EnvG.cons c13.g has13 (EnvG.cons c14.g has14 (EnvG.cons c15.g has15 (EnvG.rcons c9.g has9 EnvG.nil))))))))) rfl Tryz.func3 rfl con3 68719983647 (by kernel_rfl) (by decide) (by decide) rfl (by decide) rfl (by
  rintro ⟨(src : List Int), (raw : List Int), (a : List Bool), (b : List Bool), (c : List Bool), _⟩ hpre hwf X hT hG hk hK
  (simp -implicitDefEqProofs (maxSteps := 4000000) only [go_sem, bP, con3, con7, con8, con10, con11, con12, con13, con14, con15, con9, hT, hG, hk, hK, Tryz.results3, gvs] at hwf ⊢); (try simp (disch := decide +kernel) only [drawn, true_and, and_true])
  clear hwf; intro hr0 ha0 hb0 hc0 hln _; refine ⟨Int.le_refl 0, ?_⟩; rintro ⟨⟨⟨(ns : List Nd), (ds : List Dv)⟩, _⟩, ⟨⟨(s2 : List Int), (a2 : Int)⟩, _⟩⟩ ⟨⟨(p2 : 0 ≤ a2), (hg : GoodL (ns, ds))⟩, _⟩; have hbe := tC9 hg (s := (s2, a2)) p2; have hn24 : ns.length ≤ 24 := hg.n24; have e4 : Int.toNat 4 = 4 := rfl; simp only [e4]; generalize belV ns (s2, a2) = Q at *; obtain ⟨⟨S1, S2⟩, ⟨⟨u, l⟩, ⟨sl, bn⟩⟩⟩ := Q; have p3 : 0 ≤ S2 := hbe.sp; have h40 : l.length ≤ 40 := hbe.be.n40; refine ⟨⟨p2, hg⟩, fun _ => ?_⟩; dsimp only at *; have p4 := hB6 (s := (S1, S2)) p3 4; have htl := mB5 ns (S1, S2) 4; generalize tgS (S1, S2) 4 = T at *; generalize tgL ns (S1, S2) 4 = ts at *; have p5 := aA7 (Src.step_pos' p4) (truK T 4); generalize truS T.step (truK T 4) = T1 at *; generalize truL T.step (truK T 4) = u1 at *; have p6 := aA7 (Src.step_pos' p5) (truK T1 4); generalize truS T1.step (truK T1 4) = T2 at *; generalize truL T1.step (truK T1 4) = u2 at *; generalize truL T2.step (truK T2 ns.length) = u3 at *; have hlL : l.length ≤ 1000000 := by omega
  have htL : ts.length ≤ 1000000 := by omega
  have hrL : raw.length ≤ 1000000 := by omega
  (repeat' with_reducible first | refine And.intro ?_ ?_ | intro _) <;> try first | with_reducible (first | assumption | omega | contradiction) | decide
  all_goals first
   | omega
   | exact hg
   | exact Int.natCast_nonneg _
   | (show ((ns.length : Nat) : Int) ≤ 1000; omega))
end Go.Proofs.YtabadacjbkhmkaaGreatDoor

namespace Go.Proofs.YtabadacjbkhmkaaGreatDoor
open Go.Ev Go.ChangeShapes Go.WideShapes Go.ChangeAt Go.RowKit
theorem gC9 (H : Type) : Bulk (H := H) Rows.uptoBulk Rows.uptoBulkAll where
 lit l := by cases l <;> simp [Rows.uptoBulk]
 str b := by simp [Rows.uptoBulk]
 nil := by simp [Rows.uptoBulk]
 sl a b := by simp only [Rows.uptoBulk]; omega
 agg a := by simp only [Rows.uptoBulk]; omega
 cons d r := by simp only [Rows.uptoBulkAll]
theorem own : ownKnob Tryz.prog.godebug = none := by kernel_rfl
theorem laid : laidOutB Tryz.prog = true := by kernel_rfl
end Go.Proofs.YtabadacjbkhmkaaGreatDoor

namespace Go.Ev
theorem rA9 (w : World) (O : Nat → Prop) : ∀ ws : List ByteArray, (∀ s ∈ ws, s.size ≤ maxLen) → roAll (ro w O .str) ws (ws.map Value.string)
 | [], _ => by simp [roAll]
 | s :: ws, h => by
   simp only [roAll, List.map_cons]; exact ⟨[.string s], ws.map Value.string, rfl, by unfold ro; exact ⟨rfl, h s (List.mem_cons_self ..)⟩, rA9 w O ws fun y hy => h y (List.mem_cons_of_mem _ hy)⟩
theorem gC0 {P : Program} {W : World} {name : String} {rest : List (String × DataW Unit)} {g : Nat} {t e : TypeId} {ws : List ByteArray} (hg : P.globalNamed name = some g) (hty : (P.globals[g]?).map (·.type) = some t) (ht : P.underlying t = some (.slice e)) (he : P.underlying e = some .string) (hce : P.cellsOf e = 1)
 (h : laidMet P ((name, .slice (ws.map fun s => .lit (.string s.data.toList)) []) :: rest) W) : GlIn [(g, ⟨.sl .str, [ws]⟩)] W := fun g' v hv => by
 simp only [findL] at hv; split at hv
 · rename_i eg; cases hv; subst eg; obtain ⟨ps, ⟨g2, t2, cs, fuel, p, q, hg2, ht2, hvar, hd, _, _⟩, _⟩ := h; obtain rfl := Option.some.inj (hg.symm.trans hg2); obtain rfl := Option.some.inj (hty.symm.trans ht2); unfold World.var? at hvar; rw [hg] at hvar; simp only [Option.bind_some] at hvar; split at hvar
   case h_2 => cases hvar
   rename_i cs' e' hh hc; cases hvar; refine ⟨(Array.getElem?_eq_some_iff.1 hc).1, _, _, _, hc, fun w O hw => ?_⟩
   rcases DataW.trod_slice ht hd with ⟨_, h2⟩ | ⟨a, len, cap, elems, rst, n, rfl, hcs, hx, _, hlc, hcm, hel, helem, hsp, _⟩
   · cases h2
   · have hx1 := congrArg Prod.fst hx; simp only [DataW.slice.injEq] at hx1; obtain ⟨hx1, hx2⟩ := hx1; have hr0 : rst = [] := by
      have := hx2.symm; simpa using this
     subst hr0; have hcap : cap = len := by
      have := (hsp rfl).1; simp at this; omega
     subst hcap; have hwl : ws.length = cap := by
      have := congrArg List.length hx1; simp at this; omega
     have key : ∀ i (hi : i < cap), W.cell? (a.add i) = some (Value.string (ws[i]'(by omega))) ∧ (ws[i]'(by omega)).size ≤ maxLen := fun i hi => by
      have h1 := helem i hi; rw [hce, Nat.mul_one, List.getElem?_eq_getElem (by omega)] at h1
      cases hcc : W.cells? 0 (a.add i) 1 with
      | none => rw [hcc] at h1; cases h1
      | some c0 =>
        rw [hcc] at h1; simp only [Option.bind_some] at h1; obtain ⟨s, rfl, hs, hm⟩ := DataW.trod_string he h1; obtain ⟨_, g2⟩ := hA4 hcc; have g3 := g2 0 _ rfl; have hxi := congrArg (fun l => l[i]?) hx1; simp only [List.getElem?_map, List.getElem?_eq_getElem (show i < ws.length by omega), List.getElem?_eq_getElem (show i < elems.length by omega), Option.map_some, Option.some.injEq, hs, DataW.lit.injEq, Lit.string.injEq] at hxi; have hsw : ws[i] = s := by
         have h9 : ws[i].data = s.data := Array.toList_inj.1 hxi
         cases hq : ws[i] with
         | mk d => rw [hq] at h9; cases s; simp only at h9; rw [h9]
        rw [hsw]; refine ⟨?_, hm⟩; have : (a.add i).add 0 = a.add i := by simp [Addr.add]
        rwa [this] at g3
     have hmx : ∀ s ∈ ws, s.size ≤ maxLen := fun s hs => by
      obtain ⟨i, hi, rfl⟩ := List.getElem_of_mem hs; exact (key i (by omega)).2
     refine ⟨cs.toList, [], by simp, ?_, rfl⟩; show ro w O (.sl .str) ws cs.toList; unfold ro; refine ⟨some a, cap, cap, hcs, hwl.symm, Nat.le_refl _, hcm, ?_⟩; by_cases h0 : cap = 0
     · exact .inl h0
     · right; have hspot : a.spot = none := by
        have g3 := (key 0 (by omega)).1; simp only [Addr.add, if_true] at g3; unfold World.cell? at g3; split at g3
        · split at g3
          · cases g3
          · rename_i hs; simpa using hs
        · cases g3
       obtain ⟨b, o, sp⟩ := a; simp only at hspot; subst hspot; refine ⟨b, o, ws.map Value.string, rfl, rA9 w O ws hmx, fun j u hu => ?_⟩; have hj : j < cap := by
        have := (List.getElem?_eq_some_iff.1 hu).1; simp at this; omega
       have hu2 : u = Value.string (ws[j]'(by omega)) := by
        rw [List.getElem?_map, List.getElem?_eq_getElem (show j < ws.length by omega)] at hu; exact (Option.some.inj hu).symm
       subst hu2; have hcell := (key j hj).1; have ea : (⟨b, o, none⟩ : Addr).add j = ⟨b, o + j, none⟩ := by simp [oA0]
       rw [ea] at hcell; have hb : b < W.heap.size := block_lt_of_cell hcell; exact ⟨(hw b hb).2, (World.cell?_of_block (a := ⟨b, o + j, none⟩) (hw b hb).1).trans hcell⟩
 · cases hv
end Go.Ev
