/- Soundness of the operations on maps: make, look up, store. -/
import Derived.Test.YtdeihcabmpcaoaaGreatEvOps8ToOps9
set_option linter.unusedSimpArgs false
set_option linter.unusedVariables false
namespace Go.Ev

section
variable {cx : Cx} {σ : Nat → Value} {N : Nat → Prop} {m : Mem} {w : World} {P : Program} {T : Tab} {G : Env} {o : Oper} {fr : Nat} {ρ : Operand → Value} {av : Operand → AV}

/-- What is known of a type of keys. -/
structure KeyT (P : Program) (kT : TypeId) (kt : Ty) (ks : List CK) (ka : Bool) : Prop where
 eq : eqTB P 100 kT = some ks
 kd : kindsOf kt = some ks
 ag : isAggB P kT = ka

def EntIs (x : Rx) (kt : Ty) (ka : Bool) (key : kt.den) (q : Bool) (e : MapEntry) : Prop := ∃ k' ks', e.key = mkV ka ks' ∧ ro x.w x.O kt k' ks' ∧ keyEq kt key k' = q

theorem key_equal {x : Rx} {kT : TypeId} {kt : Ty} {ks : List CK} {ka : Bool} (hk : KeyT P kT kt ks ka) {key : kt.den} {kvs : List Value} (hkv : ro x.w x.O kt key kvs) {q : Bool} {e : MapEntry} (he : EntIs x kt ka key q e) :
 (Op.equal kT (mkV ka kvs) e.key).run P w = .ok q w := by
 obtain ⟨k', ks', e1, e2, e3⟩ := he
 have := eq_sound (P := P) (w := w) (x := x) 100 kT ks hk.eq 10000 (by omega) _ _ kvs ks' (keyEq kt key k') (kinds_eq kt ks hk.kd key k') (expl_rep kt key kvs hkv) (expl_rep kt k' ks' e2)
 rw [hk.ag] at this
 rw [e1, ← e3]
 exact this

theorem findAsking_run {x : Rx} {kT : TypeId} {kt : Ty} {ks : List CK} {ka : Bool} (hk : KeyT P kT kt ks ka) {key : kt.den} {kvs : List Value} (hkv : ro x.w x.O kt key kvs) :
 ∀ (pre : List MapEntry) (rest : List MapEntry) (i : Nat), (∀ e ∈ pre, EntIs x kt ka key false e) → (rest = [] ∨ ∃ e r, rest = e :: r ∧ EntIs x kt ka key true e) →
   (Instr.findAsking kT (mkV ka kvs) (pre ++ rest) i).run P w = .ok (rest.head?.map fun e => (i + pre.length, e.val)) w
 | [], rest, i, _, h => by
   rcases h with rfl | ⟨e, r, rfl, he⟩
   · simp [Instr.findAsking]
   · simp [Instr.findAsking, key_equal hk hkv he]
 | e :: pre, rest, i, hp, h => by
   have he := hp e List.mem_cons_self
   have ih := findAsking_run hk hkv pre rest (i + 1) (fun e he => hp e (List.mem_cons_of_mem _ he)) h
   simp only [List.cons_append, Instr.findAsking, Sem.run_bind, key_equal hk hkv he, Result.andThen_ok, Bool.false_eq_true, if_false, ih]
   congr 2
   funext e
   simp; omega

theorem findNow_run {kind : TypeDesc} {k : Value} {Q : Bool → MapEntry → Prop} (hs : ∀ q e, Q q e → Instr.sameNow kind k e.key = some q) :
 ∀ (pre : List MapEntry) (rest : List MapEntry) (i : Nat), (∀ e ∈ pre, Q false e) → (rest = [] ∨ ∃ e r, rest = e :: r ∧ Q true e) →
   Instr.findNow kind k (pre ++ rest) i = some (rest.head?.map fun e => (i + pre.length, e.val))
 | [], rest, i, _, h => by
   rcases h with rfl | ⟨e, r, rfl, he⟩
   · rfl
   · simp [Instr.findNow, hs _ _ he]
 | e :: pre, rest, i, hp, h => by
   have ih := findNow_run hs pre rest (i + 1) (fun e he => hp e (List.mem_cons_of_mem _ he)) h
   simp only [List.cons_append, Instr.findNow, hs _ _ (hp e List.mem_cons_self), ih]
   congr 2
   funext e
   simp; omega

theorem findKey_sound {x : Rx} {kT : TypeId} {kt : Ty} {ks : List CK} {ka : Bool} (hk : KeyT P kT kt ks ka) {key : kt.den} {kvs : List Value} (hkv : ro x.w x.O kt key kvs)
 (pre rest : List MapEntry) (hp : ∀ e ∈ pre, EntIs x kt ka key false e) (hr : rest = [] ∨ ∃ e r, rest = e :: r ∧ EntIs x kt ka key true e) :
 (Instr.findKey kT (mkV ka kvs) (pre ++ rest)).run P w = .ok (rest.head?.map fun e => (pre.length, e.val)) w := by
 have ask := findAsking_run (P := P) (w := w) hk hkv pre rest 0 hp hr
 simp only [Nat.zero_add] at ask
 have heq := hk.eq
 rw [eqTB] at heq
 split at heq
 · rename_i k e1 e2
   simp at heq
   have now := findNow_run (kind := .int k) (k := mkV ka kvs) (Q := fun q e => EntIs x kt ka key q e) (fun q e he => by
    obtain ⟨k', ks', h1, h2, h3⟩ := he
    have hc := kinds_eq kt ks hk.kd key k'
    rw [← heq] at hc
    obtain ⟨a, b, c1, c2, c3⟩ := eqCells_i hc
    have hkv' := expl_rep (x := x) kt key kvs hkv
    have hks' := expl_rep (x := x) kt k' ks' h2
    rw [c1] at hkv'
    rw [c2] at hks'
    obtain ⟨v, r, rfl, g1, g2⟩ := repCs_cons.1 hkv'
    obtain ⟨v', r', rfl, g1', g2'⟩ := repCs_cons.1 hks'
    unfold repC at g1 g1'
    have hka : ka = false := by rw [← hk.ag]; simp [isAggB, e1, aggB]
    subst hka
    rw [h1, ← h3, c3]
    simp only [mkV, Bool.false_eq_true, if_false, List.getD_cons_zero, g1.1, g1'.1, Instr.sameNow, if_true]
    by_cases hab : a = b <;> simp [hab]) pre rest 0 hp hr
   simp [Instr.findKey, run_underlying e1, now]
 · rename_i e1 e2
   simp at heq
   have now := findNow_run (kind := .bool) (k := mkV ka kvs) (Q := fun q e => EntIs x kt ka key q e) (fun q e he => by
    obtain ⟨k', ks', h1, h2, h3⟩ := he
    have hc := kinds_eq kt ks hk.kd key k'
    rw [← heq] at hc
    obtain ⟨a, b, c1, c2, c3⟩ := eqCells_b hc
    have hkv' := expl_rep (x := x) kt key kvs hkv
    have hks' := expl_rep (x := x) kt k' ks' h2
    rw [c1] at hkv'
    rw [c2] at hks'
    obtain ⟨v, r, rfl, g1, g2⟩ := repCs_cons.1 hkv'
    obtain ⟨v', r', rfl, g1', g2'⟩ := repCs_cons.1 hks'
    unfold repC at g1 g1'
    have hka : ka = false := by rw [← hk.ag]; simp [isAggB, e1, aggB]
    subst hka
    rw [h1, ← h3, c3]
    simp only [mkV, Bool.false_eq_true, if_false, List.getD_cons_zero, g1, g1', Instr.sameNow, if_true]
    cases a <;> cases b <;> rfl) pre rest 0 hp hr
   simp [Instr.findKey, run_underlying e1, now]
 · rename_i e1 e2
   simp at heq
   have now := findNow_run (kind := .string) (k := mkV ka kvs) (Q := fun q e => EntIs x kt ka key q e) (fun q e he => by
    obtain ⟨k', ks', h1, h2, h3⟩ := he
    have hc := kinds_eq kt ks hk.kd key k'
    rw [← heq] at hc
    obtain ⟨a, b, c1, c2, c3⟩ := eqCells_s hc
    have hkv' := expl_rep (x := x) kt key kvs hkv
    have hks' := expl_rep (x := x) kt k' ks' h2
    rw [c1] at hkv'
    rw [c2] at hks'
    obtain ⟨v, r, rfl, g1, g2⟩ := repCs_cons.1 hkv'
    obtain ⟨v', r', rfl, g1', g2'⟩ := repCs_cons.1 hks'
    unfold repC at g1 g1'
    have hka : ka = false := by rw [← hk.ag]; simp [isAggB, e1, aggB]
    subst hka
    rw [h1, ← h3, c3]
    simp only [mkV, Bool.false_eq_true, if_false, List.getD_cons_zero, g1.1, g1'.1, Instr.sameNow, if_true]
    rw [beq_toListBytes, bytes_eq]) pre rest 0 hp hr
   simp [Instr.findKey, run_underlying e1, now]
 · rename_i fs n e1 e2
   have hka : ka = true := by rw [← hk.ag]; simp [isAggB, e1, aggB]
   subst hka
   have hnow : Instr.findNow (.struct fs) (mkV true kvs) (pre ++ rest) 0 = none ∨ (pre ++ rest = [] ∧ Instr.findNow (.struct fs) (mkV true kvs) (pre ++ rest) 0 = some none) := by
    cases hpr : pre ++ rest with
    | nil => exact .inr ⟨rfl, rfl⟩
    | cons e r => exact .inl (by simp [Instr.findNow, Instr.sameNow, mkV])
   rcases hnow with hnow | ⟨he, hnow⟩
   · simp [Instr.findKey, run_underlying e1, hnow, ask]
   · obtain ⟨rfl, rfl⟩ := List.append_eq_nil_iff.1 he
     simp [Instr.findKey, run_underlying e1, Instr.findNow]
 · rename_i k e n e1 e2
   have hka : ka = true := by rw [← hk.ag]; simp [isAggB, e1, aggB]
   subst hka
   have hnow : Instr.findNow (.array k e) (mkV true kvs) (pre ++ rest) 0 = none ∨ (pre ++ rest = [] ∧ Instr.findNow (.array k e) (mkV true kvs) (pre ++ rest) 0 = some none) := by
    cases hpr : pre ++ rest with
    | nil => exact .inr ⟨rfl, rfl⟩
    | cons e r => exact .inl (by simp [Instr.findNow, Instr.sameNow, mkV])
   rcases hnow with hnow | ⟨he, hnow⟩
   · simp [Instr.findKey, run_underlying e1, hnow, ask]
   · obtain ⟨rfl, rfl⟩ := List.append_eq_nil_iff.1 he
     simp [Instr.findKey, run_underlying e1, Instr.findNow]
 · cases heq

/-- A map's entries, parted at a key. -/
theorem map_cases {x : Rx} {kt vt : Ty} {ka va : Bool} (key : kt.den) : ∀ (l : List (kt.den × vt.den)) (es : List MapEntry), mapRep x kt vt ka va l es →
 (mget l key = none ∧ (∀ e ∈ es, EntIs x kt ka key false e) ∧ (∀ v, mset l key v = l ++ [(key, v)])) ∨
 ∃ pre e post k' ks' v vs, es = pre ++ e :: post ∧ (∀ e ∈ pre, EntIs x kt ka key false e) ∧ e.key = mkV ka ks' ∧ ro x.w x.O kt k' ks' ∧ keyEq kt key k' = true ∧ mget l key = some v ∧ e.val = mkV va vs ∧ ro x.w x.O vt v vs ∧
   ∀ (y : Rx), x.Keeps y → ∀ (v2 : vt.den) (e2 : MapEntry) (kvs vs2 : List Value), e2.key = mkV ka kvs → ro y.w y.O kt key kvs → e2.val = mkV va vs2 → ro y.w y.O vt v2 vs2 → mapRep y kt vt ka va (mset l key v2) (pre ++ e2 :: post)
 | [], es, h => by
   rw [show es = [] from h]
   exact .inl ⟨rfl, (fun e he => by cases he), fun v => rfl⟩
 | p :: l, es, h => by
   obtain ⟨e, r, ks, vs, he, e1, h1, e2, h2, h3⟩ := h
   subst he
   obtain ⟨a, b⟩ := p
   by_cases hq : keyEq kt key a = true
   · refine .inr ⟨[], e, r, a, ks, b, vs, rfl, (fun e he => by cases he), e1, h1, hq, by simp [mget, hq], e2, h2, fun y hk v2 e2' kvs vs2 g1 g2 g3 g4 => ?_⟩
     simp only [mset, hq, if_true, List.nil_append]
     exact ⟨e2', r, kvs, vs2, rfl, g1, g2, g3, g4, mapRep_keep hk l r h3⟩
   · simp only [Bool.not_eq_true] at hq
     rcases map_cases key l r h3 with ⟨g1, g2, g3⟩ | ⟨pre, e', post, k', ks', v, vs', rfl, g2, g3, g4, g5, g6, g7, g8, g9⟩
     · refine .inl ⟨by simp [mget, hq, g1], fun e' he' => ?_, fun v => by simp [mset, hq, g3]⟩
       cases List.mem_cons.1 he' with
       | inl k => subst k; exact ⟨a, ks, e1, h1, hq⟩
       | inr k => exact g2 e' k
     · refine .inr ⟨e :: pre, e', post, k', ks', v, vs', rfl, fun e'' he => ?_, g3, g4, g5, by simp [mget, hq, g6], g7, g8, fun y hk v2 e2' kvs vs2 f1 f2 f3 f4 => ?_⟩
       · cases List.mem_cons.1 he with
         | inl k => subst k; exact ⟨a, ks, e1, h1, hq⟩
         | inr k => exact g2 e'' k
       · simp only [mset, hq, Bool.false_eq_true, if_false, List.cons_append]
         exact ⟨e, pre ++ e2' :: post, ks, vs, rfl, e1, ro_keep hk.k _ _ _ h1, e2, ro_keep hk.k _ _ _ h2, g9 y hk v2 e2' kvs vs2 f1 f2 f3 f4⟩

theorem mapRep_append {x : Rx} {kt vt : Ty} {ka va : Bool} : ∀ (l l' : List (kt.den × vt.den)) (es es' : List MapEntry), mapRep x kt vt ka va l es → mapRep x kt vt ka va l' es' → mapRep x kt vt ka va (l ++ l') (es ++ es')
 | [], _, _, _, h, k => by rw [show _ = _ from h]; exact k
 | p :: l, l', es, es', h, k => by
   obtain ⟨e, r, ks, vs, he, e1, h1, e2, h2, h3⟩ := h
   subst he
   exact ⟨e, r ++ es', ks, vs, rfl, e1, h1, e2, h2, mapRep_append l l' r es' h3 k⟩

theorem s_makeGE (h : RepM cx σ N m w) (hfr : ∀ id, fr ≤ id → id < fr + 32 → N id) {k e : TypeId} {nr : Bool} (hp : (makeGE T k e nr fr).pre) :
 Res cx σ N m w fr (makeGE T k e nr fr) (.map (some w.heap.size)) (w.alloc (.map #[] 0)) ∧ nr = true := by
 unfold makeGE at hp ⊢
 split at hp
 · rename_i kt e' hk hd
   split at hp
   · rename_i u hu
     split at hp
     · rename_i hc
       rw [if_pos hc]
       refine ⟨?_, hc.1⟩
       obtain ⟨g1, g2⟩ := h.put (hfr (fr + 1) (by omega) (by omega)) (.func (.func 0) #[] #[]) (.fam e' u []) w rfl (same_world w) (fun b _ hb => by cases hb)
        (fun hk => ⟨.func 0, #[], by simp only [rx]; rw [upd_same], ⟨rfl, fun i xs v h1 _ => by simp at h1, fun i j u v b h1 => by simp at h1⟩⟩) (fun b hb => by rw [hb_fam] at hb; obtain ⟨u, hu, _⟩ := hb; simp at hu)
       have hne : fr + 1 ≠ fr := by omega
       obtain ⟨g3, g4⟩ := g1.put (id := fr) ⟨hfr fr (by omega) (by omega), by omega⟩ (.map (some w.heap.size)) (.mapg kt (TI.of T k).agg (fr + 1) [] none) (w.alloc (.map #[] 0)) rfl (alloc_world w _) (fun b _ hb => by simp [blkOf] at hb; omega)
        (fun hk => ⟨w.heap.size, #[], .func 0, #[], by simp only [rx]; rw [upd_same], heap_alloc_new w _, fun k => k.1.2 rfl, by simp only [rx]; rw [upd_ne _ _ hne, upd_same], ⟨rfl, rfl, fun i k en v h1 => by simp at h1⟩⟩)
       obtain ⟨g5, g6⟩ := g3.weaken (N' := Nx N fr) (fun id hid => ⟨⟨hid.1, fun e => hid.2 ⟨by omega, by omega⟩⟩, fun e => hid.2 ⟨by omega, by omega⟩⟩)
       refine ⟨_, g5, ⟨(g2.k.trans g4.k (by simp [rx])).trans g6.k (by simp [rx]), fun id hid => ?_, fun id hid => hid.1⟩, ?_, trivial⟩
       · exact (g4.σ id (fun k => hid k.1)).trans (g2.σ id hid)
       · unfold repA repC
         exact ⟨fun k => k.2 ⟨by omega, by omega⟩, by simp only [rx]; rw [upd_same]⟩
     · exact hp.elim
   · exact hp.elim
 · exact hp.elim
theorem s_makeMap (h : RepM cx σ N m w) (hfr : ∀ id, fr ≤ id → id < fr + 32 → N id) {t : TypeId} {r : Option Operand} (ho : o.op = .makeMap t r) (ht : TabOK P T)
 (hp : (opEff T G o ((opsOf o.op).map av) m fr).pre) : Runs P w (Res cx σ N m w fr (opEff T G o ((opsOf o.op).map av) m fr)) ((execOp ρ o).run P w) := by
 rw [ho] at hp ⊢
 simp only [opEff, ho] at hp ⊢
 split at hp
 · rename_i k e hd
   by_cases hw3 : wfOf G o.dst = 3
   · simp only [hw3, if_true] at hp ⊢
     obtain ⟨g1, g2⟩ := s_makeGE h hfr hp
     have hr : r = none := by cases r <;> simp_all
     subst hr
     refine runs_value ?_ g1
     simp [execOp, ho, Instr.makeMap]
   simp only [if_neg hw3] at hp ⊢
   split at hp
   · rename_i kt vt hk hv
     split at hp
     · rename_i hc
       rw [if_pos hc]
       have hr : r = none := by cases r <;> simp_all
       subst hr
       have hrun : (execOp ρ o).run P w = .ok (.value (.map (some w.heap.size))) (w.alloc (.map #[] 0)) := by
        simp [execOp, ho, Instr.makeMap]
       obtain ⟨g1, g2⟩ := h.put (hfr fr (by omega) (by omega)) (.map (some w.heap.size)) (.mapb kt vt (TI.of T k).agg (TI.of T e).agg []) (w.alloc (.map #[] 0)) rfl (alloc_world w _) (fun b _ hb => by simp [blkOf] at hb; omega)
        (fun hk => ⟨w.heap.size, #[], 0, by simp only [rx]; rw [upd_same], heap_alloc_new w _, rfl, Stp.nil _ _⟩)
       obtain ⟨g3, g4⟩ := g1.weaken (N' := Nx N fr) (fun id hid => ⟨hid.1, fun e => hid.2 ⟨by omega, by omega⟩⟩)
       refine runs_value hrun ⟨upd σ fr (.map (some w.heap.size)), g3, ⟨g2.k.trans g4.k (by simp [rx]), fun id hid => ?_, fun id hid => hid.1⟩, ?_, trivial⟩
       · exact g2.σ id hid
       · unfold repA repC
         exact ⟨fun k => k.2 ⟨by omega, by omega⟩, by simp only [rx]; rw [upd_same]⟩
     · exact hp.elim
   · exact hp.elim
 · exact hp.elim

theorem av_mkV {x : Rx} (hσ : ∀ id, (x.σ id).oneCell' = true) {a : AV} {v : Value} (h : repA x a v) (hk : a.cells.all known = true) (hne : a.cells ≠ []) : ∃ vs, v = mkV a.ag vs ∧ repCs x a.cells vs := by
 cases a with
 | one c =>
   unfold repA at h
   exact ⟨[v], rfl, repCs_cons.2 ⟨v, [], rfl, h, repCs_nil.2 rfl⟩⟩
 | agg cs =>
   unfold repA at h
   obtain ⟨vs, rfl, h1⟩ := h
   exact ⟨vs, rfl, h1⟩
 | tup _ => exact absurd rfl hne
 | ifd _ _ => exact absurd rfl hne

theorem av_mkV2 {x : Rx} {a : AV} {v : Value} (h : repA x a v) (hA : avA a = true) : ∃ vs, v = mkV a.ag vs ∧ repCs x a.cells vs := by
 cases a with
 | one c =>
   unfold repA at h
   exact ⟨[v], rfl, repCs_cons.2 ⟨v, [], rfl, h, repCs_nil.2 rfl⟩⟩
 | agg cs =>
   unfold repA at h
   obtain ⟨vs, rfl, h1⟩ := h
   exact ⟨vs, rfl, h1⟩
 | tup _ => cases hA
 | ifd _ _ => cases hA
theorem vt_ne {ti : TI} {u : Ty} (h : ti.vt = some u) : ti ≠ TI.none := fun e => by rw [e] at h; simp [TI.vt, vtD, isU, isUD, TI.none] at h
theorem vt_ok {t : TypeId} {u : Ty} (ht : TabOK P T) (h : (TI.of T t).vt = some u) (hz : (TI.of T t).vz = true) : (∃ i vs, P.info? t = some i ∧ i.zero = some (mkV (TI.of T t).agg vs) ∧ zTy u vs) ∧ ((TI.of T t).agg = false → u.n = 1) := by
 have htt := TI.of_ok ht t (vt_ne h)
 unfold TI.vt at h
 unfold TI.vz at hz
 cases hU : isU (TI.of T t) with
 | true =>
   rw [hU] at h
   cases h
   obtain ⟨i, hi, hs, hzz⟩ := isU_zero ht hU
   obtain ⟨d, hd, ha⟩ := htt.agg
   obtain ⟨flds, hu, _⟩ := htt.struct [] (isU_desc hU)
   rw [hu] at hd; cases hd
   have hag : (TI.of T t).agg = true := by rw [← ha]; rfl
   exact ⟨⟨i, [], hi, by rw [hag]; exact hzz, rfl⟩, fun e => by rw [hag] at e; cases e⟩
 | false =>
   rw [hU] at h hz
   have hz : (TI.of T t).zt = true := hz
   have h : (TI.of T t).ty = some u := h
   exact ⟨htt.zt u hz h, fun hh => by rw [(htt.ty u h).1]; exact htt.one hh⟩

theorem impl_ne {m : Mem} {t : Ty} {cs : List C1} {y : t.den} (h : impl m t cs = some y) (ht : 0 < t.n) : cs ≠ [] := by
 rintro rfl
 induction t with
 | int k => simp [impl, implI] at h
 | bool => simp [impl, implB] at h
 | str => simp [impl, implS] at h
 | unit => simp [Ty.n] at ht
 | sl t _ => simp [impl, implL] at h
 | pair a b iha ihb =>
   obtain ⟨h1, h2⟩ := implP_some h
   simp at h1 h2
   simp only [Ty.n] at ht
   rcases Nat.eq_zero_or_pos a.n with e | e
   · exact ihb (by omega) h2
   · exact iha e h1

theorem avOf_mkV {x : Rx} {ag : Bool} {t : Ty} {y : t.den} {vs : List Value} (h : ro x.w x.O t y vs) (h1 : ag = false → t.n = 1) : repA x (avOf ag (expl t y)) (mkV ag vs) :=
 avOf_rep (expl_rep t y vs h) (fun hg => by rw [expl_len]; exact h1 hg)

theorem keyT_of {kT : TypeId} {kt : Ty} (ht : TabOK P T) (hk : kindsOf kt = some (TI.of T kT).eqn) (hne : (TI.of T kT).eqn ≠ []) : KeyT P kT kt (TI.of T kT).eqn (TI.of T kT).agg := by
 have htt := TI.of_ok ht kT (fun e => hne (by rw [e]; rfl))
 obtain ⟨dd, hdd, hag⟩ := htt.agg
 exact ⟨(htt.eqn hne).1, hk, by simp [isAggB, hdd, hag]⟩

theorem kidx_le {kt : Ty} (k : kt.den) : ∀ ks : List kt.den, kidx k ks ≤ ks.length
 | [] => Nat.le_refl _
 | a :: l => by
   unfold kidx
   split
   · exact Nat.zero_le _
   · exact Nat.succ_le_succ (kidx_le k l)
theorem kidx_before {kt : Ty} (k : kt.den) : ∀ (ks : List kt.den) (i : Nat) a, i < kidx k ks → ks[i]? = some a → keyEq kt k a = false
 | [], _, _, h, _ => by simp [kidx] at h
 | b :: l, i, a, h, ha => by
   unfold kidx at h
   by_cases hq : keyEq kt k b = true
   · rw [if_pos hq] at h; omega
   · rw [if_neg hq] at h
     cases i with
     | zero => simp at ha; subst ha; simpa using hq
     | succ i => exact kidx_before k l i a (by omega) (by simpa using ha)
theorem kidx_at {kt : Ty} (k : kt.den) : ∀ (ks : List kt.den), kidx k ks < ks.length → ∃ a, ks[kidx k ks]? = some a ∧ keyEq kt k a = true
 | [], h => by simp at h
 | b :: l, h => by
   unfold kidx at h ⊢
   by_cases hq : keyEq kt k b = true
   · rw [if_pos hq]; exact ⟨b, rfl, hq⟩
   · rw [if_neg hq] at h ⊢
     simpa using kidx_at k l (by simpa using h)
theorem mapg_find {x : Rx} {kT : TypeId} {kt : Ty} {cks : List CK} {ka : Bool} (hk : KeyT P kT kt cks ka) {key : kt.den} {kvs : List Value} (hkv : ro x.w x.O kt key kvs)
 {hole : Option Nat} {ks : List kt.den} {es : List MapEntry} {vs : List Value} (hm : mapgRep x kt ka hole ks es vs) :
 (Instr.findKey kT (mkV ka kvs) es).run P w = .ok (es[kidx key ks]?.map fun e => (kidx key ks, e.val)) w := by
 have hle := kidx_le key ks
 have hlen := hm.len
 have hlv := hm.lenv
 have ent : ∀ (i : Nat) a, ks[i]? = some a → ∀ e, es[i]? = some e → EntIs x kt ka key (keyEq kt key a) e := fun i a ha e he => by
  have hi : i < vs.length := by rw [hlv]; exact (List.getElem?_eq_some_iff.1 ha).1
  obtain ⟨_, _, kvs', h1, h2⟩ := hm.at_ i a e vs[i] ha he (List.getElem?_eq_getElem hi)
  exact ⟨a, kvs', h1, h2, rfl⟩
 have hf := findKey_sound (P := P) (w := w) hk hkv (es.take (kidx key ks)) (es.drop (kidx key ks)) (fun e he => by
  obtain ⟨i, hi, rfl⟩ := List.getElem_of_mem he
  rw [List.length_take] at hi
  rw [List.getElem_take]
  have hik : i < ks.length := by omega
  have := ent i ks[i] (List.getElem?_eq_getElem hik) es[i] (List.getElem?_eq_getElem (by omega))
  rw [kidx_before key ks i ks[i] (by omega) (List.getElem?_eq_getElem hik)] at this
  exact this) (by
  by_cases hlt : kidx key ks < ks.length
  · obtain ⟨a, ha, hq⟩ := kidx_at key ks hlt
    have hl2 : kidx key ks < es.length := by omega
    have := ent _ a ha es[kidx key ks] (List.getElem?_eq_getElem hl2)
    rw [hq] at this
    exact .inr ⟨_, _, List.drop_eq_getElem_cons hl2, this⟩
  · exact .inl (List.drop_of_length_le (by omega)))
 rw [List.take_append_drop, List.head?_drop, List.length_take, Nat.min_eq_left (by omega)] at hf
 exact hf
theorem keyG_some {kT : TypeId} {kt : Ty} {ka : Bool} {k : AV} {k' : kt.den} (hg : keyG T kT kt ka m k = some k') : impl m kt k.cells = some k' ∧ (TI.of T kT).ty = some kt ∧ kindsOf kt = some (TI.of T kT).eqn ∧ (TI.of T kT).eqn ≠ [] ∧ k.cells.all known = true ∧ rowsOf k.cells = [] ∧ k.ag = ka ∧ ka = (TI.of T kT).agg := by
 unfold keyG at hg
 split at hg
 · rename_i k2 him
   split at hg
   · rename_i hc
     cases hg
     exact ⟨him, hc⟩
   · cases hg
 · cases hg
theorem keyG_sound (h : RepM cx σ N m w) (ht : TabOK P T) {kT : TypeId} {kt : Ty} {ka : Bool} {k : AV} {k' : kt.den} (hg : keyG T kT kt ka m k = some k') {v : Value} (hy : repA (rx cx σ N m w) k v) :
 ∃ kvs, v = mkV ka kvs ∧ ro w (Owned cx σ m) kt k' kvs ∧ KeyT P kT kt (TI.of T kT).eqn ka ∧ (∀ em, (Instr.checkKey em 10000 kT v).run P w = .ok () w) ∧ (Instr.keyThatStays v v).run P w = .ok v w := by
 obtain ⟨him, c1, c3, c4, c5, c6, c8, c10⟩ := keyG_some hg
 have htk := TI.of_ok ht kT (fun e => c4 (by rw [e]; rfl))
 have hK := keyT_of (kt := kt) ht c3 c4
 rw [← c10] at hK
 obtain ⟨kvs, e4, hkr⟩ := av_mkV (x := rx cx σ N m w) h.hone hy c5 (impl_ne him (by have := (htk.ty kt c1); omega))
 rw [c8] at e4
 have hro := impl_ro h kt k.cells k' kvs him hkr (fun id hid => by rw [c6] at hid; cases hid)
 refine ⟨kvs, e4, hro, hK, fun em => ?_, ?_⟩
 · have hck := checkKey_sound (P := P) (w := w) (x := rx cx σ N m w) (em := em) 100 kT _ hK.eq 10000 (by omega) _ kvs _ (kinds_eq kt _ c3 k' k') (expl_rep kt k' kvs hro)
   rw [hK.ag] at hck
   rw [e4]; exact hck
 · have : Instr.sameBits 10000 (mkV ka kvs) (mkV ka kvs) = true := by
    have hsc := ro_scalars kt _ c3 k' kvs hro
    cases ka with
    | true => exact sameBits_agg hsc 9999
    | false =>
      have hn1 : kt.n = 1 := by rw [(htk.ty kt c1).1]; exact htk.one (by rw [← c10])
      have hl := ro_len kt k' kvs hro
      rw [hn1] at hl
      match kvs, hl with
      | [u], _ => exact sameBits_self (hsc u (by simp)) 10000
   rw [e4]
   simp [Instr.keyThatStays, this]
/-- The zero value of a type of slices. -/
theorem zero_sl (ht : TabOK P T) {eT : TypeId} {u : Ty} (h1 : (TI.of T eT).ty = some (.sl u)) (h2 : (TI.of T eT).zt = true) (h3 : (TI.of T eT).agg = false) : (zeroValue eT).run P w = .ok (.slice none 0 0) w := by
 have hte := TI.of_ok ht eT (fun e => by rw [e] at h2; cases h2)
 obtain ⟨iz, zs, hiz, hz, hzt⟩ := hte.zt _ h2 h1
 rw [show zs = [Value.slice none 0 0] from hzt, h3] at hz
 exact run_zeroValue hiz hz
theorem fam_val {x : Rx} {e : TypeId} {u : Ty} {xss : List (List u.den)} {vs : List Value} (hf : famRep x e u xss vs) {j : Nat} {v : Value} (hj : vs[j]? = some v) : ∃ a c, v = .slice a (xss.getD j []).length c ∧ (xss.getD j []).length ≤ c ∧ c ≤ maxLen ∧ (a = none → (xss.getD j []).length = 0) := by
 have hjl : j < xss.length := by rw [← hf.len]; exact (List.getElem?_eq_some_iff.1 hj).1
 obtain ⟨_, flat, h1, _⟩ := hf.row j xss[j] v (List.getElem?_eq_getElem hjl) hj
 have e1 : xss.getD j [] = xss[j] := by simp [hjl]
 rw [e1]
 rcases h1.2 with ⟨h0, a, rfl⟩ | ⟨g, cap, cur, hc, e2, hg, h2, h3, _⟩
 · exact ⟨a, 0, by rw [h0], by omega, by simp [maxLen], fun _ => h0⟩
 · exact ⟨_, cap, e2, h2, h3, fun h => by cases h⟩
theorem s_peekE (h : RepM cx σ N m w) (hfr : ∀ id, fr ≤ id → id < fr + 32 → N id) {t kT eT : TypeId} {x y : Operand} (ho : o.op = .lookup t x y false) (ht : TabOK P T) (hu : P.underlying t = some (.map kT eT)) {id : Nat} {k : AV}
 (hx : ¬ N id ∧ ρ x = σ id) (hy : repA (rx cx σ N m w) k (ρ y)) (hp : (peekE T kT eT m fr id k).pre) : Runs P w (Res cx σ N m w fr (peekE T kT eT m fr id k)) ((execOp ρ o).run P w) := by
 unfold peekE at hp ⊢
 split at hp
 · rename_i kt ka fid ks hm
   split at hp
   · rename_i e u xss hf
     split at hp
     · rename_i k' hg
       split at hp
       · rename_i hc
         rw [if_pos hc]
         obtain ⟨kvs, e4, hro, hK, hck, _⟩ := keyG_sound h ht hg hy
         have hb := h.blk id
         rw [hm] at hb
         obtain ⟨r, es, f, vs, b1, b2, b3, b4, b5⟩ := hb
         simp only [rx] at b1 b2 b3 b4
         have hb2 := h.blk fid
         rw [hf] at hb2
         obtain ⟨f', vs', c1, c2⟩ := hb2
         simp only [rx] at c1
         rw [b4] at c1
         cases c1
         have hfk := mapg_find (P := P) (w := w) hK hro b5
         have hz := zero_sl (w := w) ht hc.1 hc.2.1 hc.2.2
         have key : ∀ v, (execOp ρ o).run P w = .ok (.value v) w → (∃ a c, v = .slice a (xss.getD (kidx k' ks) []).length c ∧ (xss.getD (kidx k' ks) []).length ≤ c ∧ c ≤ maxLen ∧ (a = none → (xss.getD (kidx k' ks) []).length = 0)) →
          Runs P w (Res cx σ N m w fr ⟨True, .one (.row fr), [(fr, .lenb (xss.getD (kidx k' ks) []).length)], True⟩) ((execOp ρ o).run P w) := by
          rintro v hrun ⟨a, c, rfl, h2, h3, h4⟩
          obtain ⟨g1, g2⟩ := h.put (hfr fr (by omega) (by omega)) (.slice a (xss.getD (kidx k' ks) []).length c) (.lenb (xss.getD (kidx k' ks) []).length) w rfl (same_world w) (fun b hb _ => by cases hb)
           (fun hk => ⟨a, c, by simp only [rx]; rw [upd_same], h2, h3, h4⟩)
          obtain ⟨g3, g4⟩ := g1.weaken (N' := Nx N fr) (fun id hid => ⟨hid.1, fun e => hid.2 ⟨by omega, by omega⟩⟩)
          refine runs_value hrun ⟨_, g3, ⟨g2.k.trans g4.k (by simp [rx]), fun id hid => g2.σ id hid, fun id hid => hid.1⟩, ?_, trivial⟩
          unfold repA repC
          exact ⟨fun k => k.2 ⟨by omega, by omega⟩, by simp only [rx]; rw [upd_same]⟩
         by_cases hlt : kidx k' ks < ks.length
         · have hl2 : kidx k' ks < es.toList.length := by rw [b5.len]; exact hlt
           have hl3 : kidx k' ks < vs.toList.length := by rw [b5.lenv]; exact hlt
           rw [List.getElem?_eq_getElem hl2] at hfk
           obtain ⟨_, d2, _⟩ := b5.at_ _ _ _ _ (List.getElem?_eq_getElem hlt) (List.getElem?_eq_getElem hl2) (List.getElem?_eq_getElem hl3)
           have d3 := d2 (by simp)
           refine key vs.toList[kidx k' ks] ?_ (fam_val c2 (List.getElem?_eq_getElem hl3))
           rw [e4] at hck
           simp [execOp, ho, Instr.lookup, run_underlying hu, hx.2, b1, b2, e4, hck, hfk, getObj, Sem.run]
           simpa using d3
         · have hl2 : es.toList[kidx k' ks]? = none := List.getElem?_eq_none (by rw [b5.len]; omega)
           rw [hl2] at hfk
           have hl3 : xss.getD (kidx k' ks) [] = [] := by
            have : xss.length ≤ kidx k' ks := by rw [← c2.len, b5.lenv]; omega
            simp [List.getD, List.getElem?_eq_none this]
           refine key (.slice none 0 0) ?_ ⟨none, 0, by rw [hl3]; rfl, by rw [hl3]; exact Nat.le_refl _, by simp [maxLen], fun _ => by rw [hl3]; rfl⟩
           rw [e4] at hck
           simp [execOp, ho, Instr.lookup, run_underlying hu, hx.2, b1, b2, e4, hck, hfk, hz, getObj, Sem.run]
       · exact hp.elim
     · exact hp.elim
   · exact hp.elim
 · exact hp.elim
theorem s_lookup (h : RepM cx σ N m w) (hfr : ∀ id, fr ≤ id → id < fr + 32 → N id) {t : TypeId} {x y : Operand} {ok : Bool} (ho : o.op = .lookup t x y ok) (ht : TabOK P T) (hx : repA (rx cx σ N m w) (av x) (ρ x)) (hy : repA (rx cx σ N m w) (av y) (ρ y))
 (hp : (opEff T G o [av x, av y] m fr).pre) : Runs P w (Res cx σ N m w fr (opEff T G o [av x, av y] m fr)) ((execOp ρ o).run P w) := by
 simp only [opEff, ho] at hp ⊢
 split at hp <;> rename_i heq
 · rename_i kT eT id k hd
   simp at heq
   rw [heq.1] at hx
   rw [heq.2] at hy
   by_cases hw3 : wfOf G o.dst = 3
   · simp only [hw3, if_true] at hp ⊢
     by_cases hok : ok = true
     · rw [if_pos hok] at hp; exact hp.elim
     · simp only [if_neg hok] at hp ⊢
       have hok2 : ok = false := by simpa using hok
       subst hok2
       have hu := (TI.of_ok ht t (fun e => by rw [e] at hd; cases hd)).map kT eT hd
       exact s_peekE h hfr ho ht hu (by unfold repA repC at hx; exact hx) hy hp
   simp only [if_neg hw3] at hp ⊢
   split at hp
   · rename_i kt vt ka va l hm
     split at hp
     · rename_i k' him
       split at hp
       · rename_i hc
         rw [if_pos hc]
         obtain ⟨c1, c2, c3, c4, c5, c6, c7, c8, c9, c10⟩ := hc
         have hu := (TI.of_ok ht t (fun e => by rw [e] at hd; cases hd)).map kT eT hd
         have htk := TI.of_ok ht kT (fun e => c4 (by rw [e]; rfl))
         obtain ⟨⟨iz, zs, hiz, hz, hzt⟩, hvn⟩ := vt_ok ht c2 c7
         have hK := keyT_of (kt := kt) ht c3 c4
         rw [← c10] at hK
         unfold repA repC at hx
         obtain ⟨hn, e1⟩ := hx
         simp only [rx] at e1 hn
         have hb := h.blk id
         rw [hm] at hb
         obtain ⟨r, es, clock, e2, e3, hmr, hsp⟩ := hb
         simp only [rx] at e2 e3
         obtain ⟨kvs, e4, hkr⟩ := av_mkV (x := rx cx σ N m w) h.hone hy c5 (impl_ne him (by have := (htk.ty kt c1); omega))
         rw [c8] at e4
         have hro := impl_ro h kt k.cells k' kvs him hkr (fun id hid => by rw [c6] at hid; cases hid)
         have hck := checkKey_sound (P := P) (w := w) (x := rx cx σ N m w) (em := es.isEmpty) 100 kT _ hK.eq 10000 (by omega) _ kvs _ (kinds_eq kt _ c3 k' k') (expl_rep kt k' kvs hro)
         rw [hK.ag] at hck
         -- what is found
         have hrun : ∀ (res : Option (Nat × Value)), (Instr.findKey kT (mkV ka kvs) es.toList).run P w = .ok res w →
          (execOp ρ o).run P w = .ok (.value (if ok then .tuple #[(res.map (·.2)).getD (mkV (TI.of T eT).agg zs), .bool res.isSome] else (res.map (·.2)).getD (mkV (TI.of T eT).agg zs))) w := by
          intro res hf
          cases res with
          | none => simp [execOp, ho, Instr.lookup, run_underlying hu, e1, e2, e3, e4, hck, hf, run_zeroValue hiz hz, getObj, Sem.run]
          | some p => simp [execOp, ho, Instr.lookup, run_underlying hu, e1, e2, e3, e4, hck, hf, getObj, Sem.run]
         have fin : ∀ (res : Option (Nat × Value)), (Instr.findKey kT (mkV ka kvs) es.toList).run P w = .ok res w → (∃ vs, (res.map (·.2)).getD (mkV (TI.of T eT).agg zs) = mkV (TI.of T eT).agg vs ∧ ro w (Owned cx σ m) vt ((mget l k').getD vt.dflt) vs) → (mget l k').isSome = res.isSome →
          Runs P w (Res cx σ N m w fr ⟨True, (if ok then .tup [avOf (TI.of T eT).agg (expl vt ((mget l k').getD vt.dflt)), .one (.bool (mget l k').isSome)] else avOf (TI.of T eT).agg (expl vt ((mget l k').getD vt.dflt))), [], Wf vt ((mget l k').getD vt.dflt)⟩) ((execOp ρ o).run P w) := by
          intro res hf hv hs
          obtain ⟨vs, hv1, hv2⟩ := hv
          refine runs_value (hrun res hf) (Res.pure h rfl ?_ (ro_wf vt _ vs hv2))
          have ha := avOf_mkV (x := rx cx σ N m w) (ag := (TI.of T eT).agg) hv2 hvn
          cases ok with
          | false => simp only [Bool.false_eq_true, if_false]; rw [hv1]; exact ha
          | true =>
            simp only [if_true]
            unfold repA
            refine ⟨_, rfl, ?_⟩
            unfold repAs
            refine ⟨_, _, rfl, by rw [hv1]; exact ha, ?_⟩
            unfold repAs
            refine ⟨_, _, rfl, by rw [hs]; exact repA_bool _, ?_⟩
            unfold repAs; rfl
         rcases map_cases k' l es.toList hmr with ⟨g1, g2, g3⟩ | ⟨pre, e, post, k2, ks2, v, vs, g1, g2, g3, g4, g5, g6, g7, g8, g9⟩
         · have hf := findKey_sound (P := P) (w := w) (x := rx cx σ N m w) hK hro es.toList [] g2 (.inl rfl)
           rw [List.append_nil] at hf
           refine fin none hf ⟨zs, rfl, by rw [g1]; exact zTy_ro vt zs hzt⟩ (by rw [g1]; rfl)
         · have hf := findKey_sound (P := P) (w := w) (x := rx cx σ N m w) hK hro pre (e :: post) g2 (.inr ⟨e, post, rfl, ⟨k2, ks2, g3, g4, g5⟩⟩)
           rw [← g1] at hf
           refine fin _ hf ⟨vs, by simp [g7, c9], by rw [g6]; exact g8⟩ (by rw [g6]; rfl)
       · exact hp.elim
     · exact hp.elim
   · exact hp.elim
 · exact hp.elim

end
end Go.Ev

/- Soundness of the operations: stores into maps, slices built, function values, calls; all operations together. -/
set_option linter.unusedSimpArgs false
set_option linter.unusedVariables false
namespace Go.Ev

section
variable {cx : Cx} {σ : Nat → Value} {N : Nat → Prop} {m : Mem} {w : World} {P : Program} {T : Tab} {G : Env} {o : Oper} {fr : Nat} {ρ : Operand → Value} {av : Operand → AV}

theorem modify_mid {α : Type} (f : α → α) (e : α) (post : List α) : ∀ pre : List α, (pre ++ e :: post).modify pre.length f = pre ++ f e :: post
 | [] => rfl
 | x :: pre => by simp [modify_mid f e post pre]

theorem keys_apart {x y : Rx} {kt vt : Ty} {ka : Bool} {key : kt.den} {kvs : List Value} {val : Value} {cl : Nat} {es : List MapEntry} (hk : ro x.w x.O kt key kvs) (h : ∀ e ∈ es, EntIs y kt ka key false e) :
 stq kt vt = true → ∀ e ∈ es, e.key ≠ (MapEntry.mk (mkV ka kvs) val cl).key := fun q e he hh => by
 have hkt : kt = .str := by
  unfold stq at q
  split at q
  · cases q
  · rfl
  · cases q
 subst hkt
 obtain ⟨k', ks', e1, e2, e3⟩ := h e he
 obtain ⟨rfl, _⟩ := hk
 obtain ⟨rfl, _⟩ := e2
 rw [e1] at hh
 have hkk : key = k' := by
  cases ka
  · simpa [mkV] using hh.symm
  · simpa [mkV] using hh.symm
 unfold keyEq at e3
 rw [hkk] at e3
 simp at e3

theorem s_mapUpdate (h : RepM cx σ N m w) {t : TypeId} {x y z : Operand} (ho : o.op = .mapUpdate t x y z) (ht : TabOK P T) (hx : repA (rx cx σ N m w) (av x) (ρ x)) (hy : repA (rx cx σ N m w) (av y) (ρ y)) (hz : repA (rx cx σ N m w) (av z) (ρ z))
 (hp : (opEff T G o [av x, av y, av z] m fr).pre) : Runs P w (Res cx σ N m w fr (opEff T G o [av x, av y, av z] m fr)) ((execOp ρ o).run P w) := by
 simp only [opEff, ho] at hp ⊢
 split at hp <;> rename_i heq
 · rename_i kT eT id k v hd
   simp at heq
   rw [heq.1] at hx
   rw [heq.2.1] at hy
   rw [heq.2.2] at hz
   split at hp
   · rename_i kt vt ka va l hm
     split at hp
     · rename_i k' x' him hiv
       split at hp
       · rename_i hc
         rw [if_pos hc]
         obtain ⟨c1, c2, c3, c4, c5, c6, c7, c8, c9, c10, c11⟩ := hc
         have hu := (TI.of_ok ht t (fun e => by rw [e] at hd; cases hd)).map kT eT hd
         have htk := TI.of_ok ht kT (fun e => c4 (by rw [e]; rfl))
         have hK := keyT_of (kt := kt) ht c3 c4
         rw [← c10] at hK
         unfold repA repC at hx
         obtain ⟨hn, e1⟩ := hx
         simp only [rx] at e1 hn
         -- the rows among the value turn into plain data
         obtain ⟨q1, q2⟩ := h.settles (rowsOf v.cells)
         have hiv' := impl_settle m (rowsOf v.cells) vt v.cells
         rw [hiv] at hiv'
         have hno := settled_not_own (m := m) (ids := rowsOf v.cells) hiv (fun _ hh => hh)
         have hmid : updM m ((rowsOf v.cells).map (settle m)) id = .mapb kt vt ka va l := by
          rw [updM_settle m (rowsOf v.cells) m id (fun _ _ => .inl rfl)]
          split
          · simp [settle, hm]
          · exact hm
         obtain ⟨kvs, e4, hkr⟩ := av_mkV (x := rx cx σ N m w) h.hone hy c5 (impl_ne him (by have := (htk.ty kt c1); omega))
         rw [c8] at e4
         have hro := impl_ro h kt k.cells k' kvs him hkr (fun id hid => by rw [c7] at hid; cases hid)
         obtain ⟨vvs, e5, hvr⟩ := av_mkV2 (x := rx cx σ N m w) hz c11
         rw [c9] at e5
         have hck := checkKey_sound (P := P) (w := w) (x := rx cx σ N m w) (em := false) 100 kT _ hK.eq 10000 (by omega) _ kvs _ (kinds_eq kt _ c3 k' k') (expl_rep kt k' kvs hro)
         rw [hK.ag] at hck
         have hmm : updM m ((rowsOf v.cells).map (settle m) ++ [(id, Blk.mapb kt vt ka va (mset l k' x'))]) = upd (updM m ((rowsOf v.cells).map (settle m))) id (.mapb kt vt ka va (mset l k' x')) := by
          rw [updM_append]; rfl
         generalize updM m ((rowsOf v.cells).map (settle m)) = M at *
         have hrov := impl_ro q1 vt v.cells x' vvs hiv' (repCs_keep q2 _ _ hvr) hno
         have hb := q1.blk id
         rw [hmid] at hb
         obtain ⟨r, es, clock, e2, e3, hmr, hsp⟩ := hb
         simp only [rx] at e2 e3
         have hroM := ro_keep q2.k kt k' kvs hro
         have hset := MapKept.heap_set (o' := .map es clock) e3
         -- the world behind
         have fin : ∀ es', (execOp ρ o).run P w = .ok .skip { w with heap := w.heap.setIfInBounds r es' } → (∀ y : Rx, (rx cx σ N M w).Keeps y → ∃ esA cl, es' = .map esA cl ∧ mapRep y kt vt ka va (mset l k' x') esA.toList ∧ Stp kt vt esA.toList cl) →
          Runs P w (Res cx σ N m w fr ⟨True, .one .undef, (rowsOf v.cells).map (settle m) ++ [(id, .mapb kt vt ka va (mset l k' x'))], True⟩) ((execOp ρ o).run P w) := by
          intro es' hrun hrep
          obtain ⟨f1, f2⟩ := MapKept.heap_set (o' := es') e3
          obtain ⟨g1, g2⟩ := q1.write hn (.mapb kt vt ka va (mset l k' x')) (b := r) (by rw [e2]; rfl) (by rw [hmid]; rfl) (w' := { w with heap := w.heap.setIfInBounds r es' }) f2 (by simp) rfl rfl rfl (fun hk => by
           obtain ⟨esA, cl, rfl, hmr'⟩ := hrep _ hk
           exact ⟨r, esA, cl, e2, f1, hmr'⟩)
          obtain ⟨g3, g4⟩ := g1.weaken (N' := Nx N fr) (fun _ k => k.1)
          refine runs_skip hrun ⟨σ, ?_, ?_, ?_, trivial⟩ <;> simp only [hmm]
          · exact g3
          · exact ⟨(q2.k.trans g2.k (Nat.le_refl _)).trans g4.k (by simp [rx]), fun _ _ => rfl, fun _ k => k.1⟩
          · unfold repA repC; trivial
         rcases map_cases (x := rx cx σ N M w) k' l es.toList hmr with ⟨g1, g2, g3⟩ | ⟨pre, e, post, k2, ks2, v2, vs2, g1, g2, g3, g4, g5, g6, g7, g8, g9⟩
         · have hf := findKey_sound (P := P) (w := w) (x := rx cx σ N M w) hK hroM es.toList [] g2 (.inl rfl)
           rw [List.append_nil] at hf
           refine fin (.map (es.push { key := mkV ka kvs, val := mkV va vvs, born := clock }) (clock + 1)) ?_ (fun y hk => ⟨_, _, rfl, ?_, by rw [Array.toList_push]; exact hsp.push rfl (keys_apart hroM g2)⟩)
           · simp [execOp, ho, Instr.mapUpdate, run_underlying hu, e1, e2, e3, e4, e5, hck, hf, getObj, setObj, Sem.run]
           · rw [g3, Array.toList_push]
             exact mapRep_append _ _ _ _ (mapRep_keep hk _ _ hmr) ⟨_, [], kvs, vvs, rfl, rfl, ro_keep hk.k _ _ _ hroM, rfl, ro_keep hk.k _ _ _ hrov, rfl⟩
         · have hf := findKey_sound (P := P) (w := w) (x := rx cx σ N M w) hK hroM pre (e :: post) g2 (.inr ⟨e, post, rfl, ⟨k2, ks2, g3, g4, g5⟩⟩)
           rw [← g1] at hf
           have hk2 : k' = k2 := keyEq_eq kt _ c3 k' k2 g5
           subst hk2
           have hks : ks2 = kvs := ro_det kt _ c3 k' ks2 kvs g4 hroM
           subst hks
           have hlt : pre.length < es.size := by
            have : es.toList.length = es.size := by simp
            rw [← this, g1]; simp
           have hget : es[pre.length]? = some e := by
            have : es.toList[pre.length]? = some e := by rw [g1]; simp
            simpa using this
           have hstay : (Instr.keyThatStays (mkV ka ks2) (mkV ka ks2)).run P w = .ok (mkV ka ks2) w := by
            have : Instr.sameBits 10000 (mkV ka ks2) (mkV ka ks2) = true := by
             have hsc := ro_scalars kt _ c3 k' ks2 hroM
             cases ka with
             | true => exact sameBits_agg hsc 9999
             | false =>
               have hn1 : kt.n = 1 := by rw [(htk.ty kt c1).1]; exact htk.one (by rw [← c10])
               have hl := ro_len kt k' ks2 hroM
               rw [hn1] at hl
               match ks2, hl with
               | [u], _ => exact sameBits_self (hsc u (by simp)) 10000
            simp [Instr.keyThatStays, this]
           refine fin (.map (es.modify pre.length fun e => { e with key := mkV ka ks2, val := mkV va vvs }) clock) ?_ (fun y hk => ⟨_, _, rfl, ?_, by rw [Array.toList_modify, g1, modify_mid]; rw [g1] at hsp; exact hsp.mid rfl g3.symm⟩)
           · simp [execOp, ho, Instr.mapUpdate, run_underlying hu, e1, e2, e3, e4, e5, hck, hf, getObj, setObj, Sem.run, hget, g3, hstay]
           · rw [Array.toList_modify, g1, modify_mid]
             exact g9 y hk x' _ ks2 vvs rfl (ro_keep hk.k _ _ _ hroM) rfl (ro_keep hk.k _ _ _ hrov)
       · exact hp.elim
     · exact hp.elim
   · exact hp.elim
 · exact hp.elim

/-! ### slices built -/

theorem fill_seq {size : Nat} (hpos : 0 < size) : ∀ (vs : List Value) (k : Nat) (done rest : List Value), done.length = k * size → rest.length = vs.length * size → (∀ v ∈ vs, v.cells.size = size) →
 Instr.fill (fun i => some (i * size, size)) (done ++ rest).toArray ((vs.zipIdx k).map fun p => (p.2, p.1)) = some (done ++ vs.flatMap fun v => v.cells.toList).toArray
 | [], k, done, rest, hd, hr, _ => by
   have : rest = [] := List.eq_nil_of_length_eq_zero (by simpa using hr)
   subst this
   rfl
 | v :: vs, k, done, rest, hd, hr, hs => by
   have hv := hs v List.mem_cons_self
   have hvl : v.cells.toList.length = size := by simpa using hv
   have hr' : rest.length = vs.length * size + size := by rw [hr, List.length_cons, Nat.add_mul, Nat.one_mul]
   simp only [List.zipIdx_cons, List.map_cons]
   rw [fill_step (fun i => some (i * size, size)) (done ++ rest) k v _ rfl hv (by simp; omega)]
   have h1 : (done ++ rest).take (k * size) = done := by rw [← hd]; exact List.take_left
   have h2 : (done ++ rest).drop (k * size + v.cells.toList.length) = rest.drop size := by rw [hvl, ← hd, ← List.drop_drop, List.drop_left]
   rw [h1, h2, fill_seq hpos vs (k + 1) (done ++ v.cells.toList) (rest.drop size) (by simp [hd, hv, Nat.add_mul]) (by simp; omega) (fun u hu => hs u (List.mem_cons_of_mem _ hu))]
   simp

theorem buildParts_ro {M : Mem} (q1 : RepM cx σ N M w) {e : TypeId} {u : Ty} (hsz : u.n = (TI.of T e).size) (hpos : 0 < u.n) : ∀ (avs : List AV) (pv : List Value) (xs : List u.den), seqO (avs.map fun v => if v.cells.length = (TI.of T e).size ∧ v.cells.all known = true then impl M u v.cells else none) = some xs →
 repAs (rx cx σ N M w) avs pv → (∀ a ∈ avs, ∀ id ∈ rowsOf a.cells, own (M id) = false) → roAll (ro w (Owned cx σ M) u) xs (pv.flatMap fun v => v.cells.toList) ∧ (∀ v ∈ pv, v.cells.size = u.n) ∧ pv.length = xs.length
 | [], pv, xs, hs, hr, _ => by
   unfold repAs at hr
   subst hr
   simp [seqO] at hs; subst hs
   exact ⟨rfl, (fun v hv => by cases hv), rfl⟩
 | a :: avs, pv, xs, hs, hr, hno => by
   unfold repAs at hr
   obtain ⟨v, r, rfl, ha, hr'⟩ := hr
   simp only [List.map_cons] at hs
   split at hs
   · rename_i hc
     cases hi : impl M u a.cells with
     | none => rw [hi] at hs; simp [seqO] at hs
     | some y =>
       rw [hi] at hs
       simp only [seqO] at hs
       split at hs
       · rename_i ys hys
         simp at hs; subst hs
         obtain ⟨h1, h2, h3⟩ := buildParts_ro q1 hsz hpos avs r ys hys hr' (fun a ha => hno a (List.mem_cons_of_mem _ ha))
         have hac := cells_of (x := rx cx σ N M w) q1.hone ha hc.2 (impl_ne hi hpos)
         have hro := impl_ro q1 u a.cells y _ hi hac (hno a List.mem_cons_self)
         have hl := ro_len u y _ hro
         refine ⟨⟨v.cells.toList, r.flatMap fun v => v.cells.toList, by simp, hro, h1⟩, fun v' hv' => ?_, by simp [h3]⟩
         cases List.mem_cons.1 hv' with
         | inl e => subst e; simpa using hl
         | inr e => exact h2 v' e
       · cases hs
   · simp [seqO] at hs

theorem repAs_map {x : Rx} {av : Operand → AV} {ρ : Operand → Value} : ∀ l : List Operand, (∀ y ∈ l, repA x (av y) (ρ y)) → repAs x (l.map av) (l.map ρ)
 | [], _ => by unfold repAs; rfl
 | y :: l, h => by
   simp only [List.map_cons]
   unfold repAs
   exact ⟨_, _, rfl, h y List.mem_cons_self, repAs_map l (fun z hz => h z (List.mem_cons_of_mem _ hz))⟩

theorem zip_range {α β : Type} (f : β → α) : ∀ (l : List (Nat × β)) (k : Nat), l.map (·.1) = List.range' k l.length → l.map (fun p => (p.1, f p.2)) = ((l.map fun p => f p.2).zipIdx k).map fun p => (p.2, p.1)
 | [], _, _ => rfl
 | (i, b) :: l, k, h => by
   simp only [List.map_cons, List.length_cons, List.range'_succ, List.cons.injEq] at h
   obtain ⟨rfl, h2⟩ := h
   simp [zip_range f l (i + 1) h2]

theorem ones_cells : ∀ (as : List AV) (vs : List Value) {x : Rx}, as.all isOne = true → repAs x as vs → repCs x (as.flatMap AV.cells) vs
 | [], vs, x, _, h => by unfold repAs at h; rw [h]; exact repCs_nil.2 rfl
 | .one c :: as, vs, x, ho, h => by
   unfold repAs at h
   obtain ⟨v, r, rfl, h1, h2⟩ := h
   unfold repA at h1
   exact repCs_cons.2 ⟨v, r, rfl, h1, ones_cells as r (by simp at ho; simpa using ho.2) h2⟩
 | .agg _ :: _, _, _, ho, _ => by simp [isOne] at ho
 | .tup _ :: _, _, _, ho, _ => by simp [isOne] at ho
 | .ifd _ _ :: _, _, _, ho, _ => by simp [isOne] at ho
theorem fns_cells : ∀ (cs : List C1) (vs : List Value) {x : Rx}, cs.all isFn = true → repCs x cs vs → oneAll vs ∧ (∀ v ∈ vs, v.cells.toList = [v])
 | [], vs, x, _, h => by rw [repCs_nil.1 h]; exact ⟨fun _ hu => (by cases hu), fun _ hu => (by cases hu)⟩
 | c :: cs, vs, x, ho, h => by
   obtain ⟨v, r, rfl, h1, h2⟩ := repCs_cons.1 h
   obtain ⟨k1, k2⟩ := fns_cells cs r (by simp at ho; simpa using ho.2) h2
   cases c with
   | fn f caps =>
     unfold repC at h1
     obtain ⟨us, rfl, _⟩ := h1
     refine ⟨fun u hu => ?_, fun u hu => ?_⟩
     · rcases List.mem_cons.1 hu with e | hu
       · rw [e]; rfl
       · exact k1 u hu
     · rcases List.mem_cons.1 hu with e | hu
       · rw [e]; rfl
       · exact k2 u hu
   | mv f caps =>
     unfold repC at h1
     obtain ⟨us, rfl, _⟩ := h1
     refine ⟨fun u hu => ?_, fun u hu => ?_⟩
     · rcases List.mem_cons.1 hu with e | hu
       · rw [e]; rfl
       · exact k1 u hu
     · rcases List.mem_cons.1 hu with e | hu
       · rw [e]; rfl
       · exact k2 u hu
   | _ => simp [isFn] at ho
theorem flat_ones : ∀ (vs : List Value), (∀ v ∈ vs, v.cells.toList = [v]) → (vs.flatMap fun v => v.cells.toList) = vs
 | [], _ => rfl
 | v :: vs, h => by rw [List.flatMap_cons, h v List.mem_cons_self, flat_ones vs (fun u hu => h u (List.mem_cons_of_mem _ hu))]; rfl
/-- Functions side by side. -/
theorem s_funs (h : RepM cx σ N m w) (hfr : ∀ id, fr ≤ id → id < fr + 32 → N id) {t e : TypeId} {len : Nat} {parts : Array (Nat × Operand)} (ho : o.op = .buildSlice t len parts) (ht : TabOK P T) (hd : (TI.of T t).desc = .slice e)
 (hx : ∀ x ∈ parts.toList.map (·.2), repA (rx cx σ N m w) (av x) (ρ x)) (hp : (funsE T e fr len (parts.toList.map (·.1)) ((parts.toList.map (·.2)).map av)).pre) :
 Runs P w (Res cx σ N m w fr (funsE T e fr len (parts.toList.map (·.1)) ((parts.toList.map (·.2)).map av))) ((execOp ρ o).run P w) := by
 unfold funsE at hp ⊢
 split at hp
 · rename_i hc
   rw [if_pos hc]
   obtain ⟨c1, c2, c3, c4, c5, c6, c7, c8⟩ := hc
   have hu := (TI.of_ok ht t (fun e => by rw [e] at hd; cases hd)).slice e hd
   obtain ⟨i, hi, hs, hby, z, hz, hzs, _⟩ := (TI.of_ok ht e (fun k => by rw [k] at c2; cases c2)).info
   have hreps := repAs_map (x := rx cx σ N m w) _ hx
   have hcs := ones_cells _ _ c8 hreps
   obtain ⟨k1, k2⟩ := fns_cells _ _ c7 hcs
   have hplen : parts.toList.length = len := by simpa using c5
   have hfill := fill_seq (size := i.size) (by omega) ((parts.toList.map (·.2)).map ρ) 0 [] ((Array.range (len * i.size)).map (z.cells[· % z.cells.size]!)).toList (by simp) (by simp [hplen]) (fun v hv => by
    have := congrArg List.length (k2 v hv)
    simp at this; omega)
   rw [List.nil_append, List.nil_append, Array.toArray_toList, flat_ones _ k2] at hfill
   have hpe := zip_range ρ parts.toList 0 (by rw [c1, hplen, List.range_eq_range'])
   have hrun : (execOp ρ o).run P w = .ok (.value (.slice (some ⟨w.heap.size, 0, none⟩) len len)) (w.alloc (.cells ((parts.toList.map (·.2)).map ρ).toArray e)) := by
    have h1 : i.size = 1 := by omega
    have h16 : ¬ (len * i.size > 2 ^ 24) := by rw [h1]; omega
    have hmm : (parts.toList.map (·.2)).map ρ = parts.toList.map fun p => ρ p.2 := by simp
    rw [hmm] at hfill ⊢
    rw [← hpe] at hfill
    have h0 : ¬ (len * i.size = 0) := by rw [h1]; omega
    simp [execOp, ho, Instr.buildSlice, run_underlying hu, run_sizeOf hi, h0, h16, run_zeroValue hi hz, hfill, newRow]
   obtain ⟨σ', g1, g2, g3, _⟩ := alloc_block (e := e) (u0 := []) ⟨Keep.refl _ _, fun _ _ => rfl, fun _ h => h⟩ h (hfr fr (by omega) (by omega)) (fun id hid _ => hid) hcs k1 rfl
   refine runs_value hrun ⟨σ', g1, g2, ?_, trivial⟩
   unfold repA repC at g3 ⊢
   obtain ⟨q1, b, q2, q3⟩ := g3
   have : b = w.heap.size := by
    have := congrArg (fun v => match v with | Value.pointer (some a) => a.block | _ => 0) q3
    simpa using this.symm
   subst this
   exact ⟨q1, by omega, c3, _, q2, rfl⟩
 · exact hp.elim

theorem s_buildSlice (h : RepM cx σ N m w) (hfr : ∀ id, fr ≤ id → id < fr + 32 → N id) {t : TypeId} {len : Nat} {parts : Array (Nat × Operand)} (h7 : ¬ wfOf G o.dst = 7) (h8 : ¬ 8 ≤ wfOf G o.dst) (ho : o.op = .buildSlice t len parts) (ht : TabOK P T)
 (hx : ∀ x ∈ opsOf o.op, repA (rx cx σ N m w) (av x) (ρ x)) (hp : (opEff T G o ((opsOf o.op).map av) m fr).pre) : Runs P w (Res cx σ N m w fr (opEff T G o ((opsOf o.op).map av) m fr)) ((execOp ρ o).run P w) := by
 rw [ho] at hx hp ⊢
 simp only [opEff, ho, opsOf] at hx hp ⊢
 split at hp
 · rename_i e hd
   rw [if_neg h7, if_neg h8] at hp ⊢
   split at hp
   · rename_i u hty
     split at hp
     · rename_i xs hbp
       split at hp
       · rename_i hc
         unfold seqIdx at hc
         obtain ⟨c1, c2, c3⟩ := of_decide_eq_true hc
         have hu := (TI.of_ok ht t (fun e => by rw [e] at hd; cases hd)).slice e hd
         have hte := TI.of_ok ht e (fun k => by rw [k] at hty; cases hty)
         obtain ⟨i, hi, hs, hby, z, hz, hzs, _⟩ := hte.info
         obtain ⟨hun, hpos, _⟩ := hte.ty u hty
         have hreps := repAs_map (x := rx cx σ N m w) _ hx
         have hids : ((parts.toList.map (·.2)).map av).flatMap (fun v => (rowsOf v.cells).map (settle m)) = (((parts.toList.map (·.2)).map av).flatMap fun v => rowsOf v.cells).map (settle m) := by
          rw [List.map_flatMap]
         simp only [hids]
         generalize hids' : ((parts.toList.map (·.2)).map av).flatMap (fun v => rowsOf v.cells) = ids at *
         obtain ⟨q1, q2⟩ := h.settles ids
         have hbp' : seqO (((parts.toList.map (·.2)).map av).map fun v => if v.cells.length = (TI.of T e).size ∧ v.cells.all known = true then impl (updM m (ids.map (settle m))) u v.cells else none) = some xs := by
          rw [← hbp]
          unfold buildParts
          congr 2
          funext v
          rw [impl_settle]
         have hown : ∀ a ∈ (parts.toList.map (·.2)).map av, ∀ id ∈ rowsOf a.cells, own (updM m (ids.map (settle m)) id) = false := by
          intro a ha id hid
          have hmem : id ∈ ids := by rw [← hids']; exact List.mem_flatMap.2 ⟨a, ha, hid⟩
          -- what is read there is a row or plain data
          have : ∃ y, impl m u a.cells = some y := by
           have key : ∀ (l : List AV) (ys : List u.den), seqO (l.map fun v => if v.cells.length = (TI.of T e).size ∧ v.cells.all known = true then impl m u v.cells else none) = some ys → ∀ a ∈ l, ∃ y, impl m u a.cells = some y := by
            intro l
            induction l with
            | nil => intro _ _ a ha; cases ha
            | cons b l ih =>
              intro ys hys a ha
              simp only [List.map_cons] at hys
              split at hys
              · cases hb : impl m u b.cells with
                | none => rw [hb] at hys; simp [seqO] at hys
                | some y =>
                  rw [hb] at hys
                  simp only [seqO] at hys
                  split at hys
                  · rename_i r hr
                    cases List.mem_cons.1 ha with
                    | inl e => subst e; exact ⟨y, hb⟩
                    | inr e => exact ih r hr a e
                  · cases hys
              · simp [seqO] at hys
           exact key _ xs hbp a ha
          obtain ⟨y, hy⟩ := this
          rw [updM_settle m ids m id (fun _ _ => .inl rfl), if_pos hmem, settle_eq]
          obtain ⟨v, ys, hm | ⟨ee, hm⟩⟩ := rows_are _ _ _ hy id hid <;> simp [hm, own]
         have hreps' := repAs_keep q2 _ _ hreps
         obtain ⟨b1, b2, b3⟩ := buildParts_ro (T := T) q1 hun (by omega) _ _ xs hbp' hreps' hown
         have hplen : parts.toList.length = len := by simpa using c3
         have hxl : xs.length = len := by rw [← b3]; simpa using hplen
         have hfill := fill_seq (size := i.size) (by omega) ((parts.toList.map (·.2)).map ρ) 0 [] ((Array.range (len * i.size)).map (z.cells[· % z.cells.size]!)).toList (by simp) (by simp [hplen]) (fun v hv => by rw [b2 v hv]; omega)
         rw [List.nil_append, List.nil_append, Array.toArray_toList] at hfill
         have hpe := zip_range ρ parts.toList 0 (by rw [c1, hplen, List.range_eq_range'])
         have hrun : (execOp ρ o).run P w = .ok (.value (.slice (some ⟨w.heap.size, 0, none⟩) len len)) (w.alloc (.cells (((parts.toList.map (·.2)).map ρ).flatMap fun v => v.cells.toList).toArray e)) := by
          have h16 : ¬ (len * i.size > 2 ^ 24) := by rw [hs]; omega
          have hmm : (parts.toList.map (·.2)).map ρ = parts.toList.map fun p => ρ p.2 := by simp
          rw [hmm] at hfill ⊢
          rw [← hpe] at hfill
          by_cases h0 : len * i.size = 0
          · have hz0 : ∀ f : Nat → Value, (Array.range (len * i.size)).map f = #[] := by intro f; rw [h0]; simp
            rw [hz0] at hfill
            have hz1 : ∀ f : Nat → Value, (Array.range 0).map f = #[] := by intro f; simp
            simp [execOp, ho, Instr.buildSlice, run_underlying hu, run_sizeOf hi, h0, hz1, hfill, newRow]
          · simp [execOp, ho, Instr.buildSlice, run_underlying hu, run_sizeOf hi, h0, h16, run_zeroValue hi hz, hfill, newRow]
         have hfl := roAll_len (fun x c => ro_len u x c) _ _ b1
         have hlm : len ≤ maxLen := by
          have := Nat.le_mul_of_pos_right len hpos
          simp only [maxLen]; omega
         have := fresh_row (cx := cx) (w := w) (e := e) (t := u) (xs := xs) (cap := len) (p := True) (q := True) q2 q1 (hfr fr (by omega) (by omega)) (fun id hid _ => hid)
          (alloc_world w (.cells (((parts.toList.map (·.2)).map ρ).flatMap fun v => v.cells.toList).toArray e)) (heap_alloc_new w _) b1 (by omega) hlm (by rw [List.size_toArray, hfl, hxl]) (by
            show List.take _ (List.flatMap _ _) = _
            rw [← hfl]; exact List.take_length) trivial rfl
         rw [hxl] at this
         exact runs_value hrun this
       · exact hp.elim
     · exact hp.elim
   · exact hp.elim
 · exact hp.elim

theorem s_insert (h : RepM cx σ N m w) {t : TypeId} {x y z : Operand} (ho : o.op = .insert t x y z) (ht : TabOK P T) (hx : repA (rx cx σ N m w) (av x) (ρ x)) (hy : repA (rx cx σ N m w) (av y) (ρ y)) (hz : repA (rx cx σ N m w) (av z) (ρ z))
 (hp : (opEff T G o [av x, av y, av z] m fr).pre) : Runs P w (Res cx σ N m w fr (opEff T G o [av x, av y, av z] m fr)) ((execOp ρ o).run P w) := by
 have e1 : execOp ρ { o with op := .mapUpdate t x y z } = execOp ρ o := by simp only [execOp, ho]
 have e2 : opEff T G { o with op := .mapUpdate t x y z } [av x, av y, av z] m fr = opEff T G o [av x, av y, av z] m fr := by simp only [opEff, ho]
 have := s_mapUpdate (o := { o with op := .mapUpdate t x y z }) (fr := fr) (G := G) h rfl ht hx hy hz (by rw [e2]; exact hp)
 rw [e1, e2] at this
 exact this

end
end Go.Ev
