/- Soundness of the operations on maps: make, look up, store. -/
import Derived.Test.YtdmgmdppejopcaaEvOps9
set_option linter.unusedSimpArgs false
set_option linter.unusedVariables false
namespace Go.Ev

section
variable {cx : Cx} {σ : Nat → Value} {N : Nat → Prop} {m : Mem} {w : World} {P : Program} {T : Tab} {G : Env} {o : Oper} {fr : Nat} {ρ : Operand → Value} {av : Operand → AV}

/-- What is known of a type of keys. -/
structure KeyT (P : Program) (kT : TypeId) (kt : Ty) (ks : List CK) (ka : Bool) : Prop where
  eq : eqTB P 100 kT = some ks
  kd : kindsOf kt = some ks
  ag : isAggB P kT = ka

def EntIs (x : Rx) (kt : Ty) (ka : Bool) (key : kt.den) (q : Bool) (e : MapEntry) : Prop := ∃ k' ks', e.key = mkV ka ks' ∧ ro x.w x.O kt k' ks' ∧ keyEq kt key k' = q

theorem key_equal {x : Rx} {kT : TypeId} {kt : Ty} {ks : List CK} {ka : Bool} (hk : KeyT P kT kt ks ka) {key : kt.den} {kvs : List Value} (hkv : ro x.w x.O kt key kvs) {q : Bool} {e : MapEntry} (he : EntIs x kt ka key q e) :
    (Op.equal kT (mkV ka kvs) e.key).run P w = .ok q w := by
  obtain ⟨k', ks', e1, e2, e3⟩ := he
  have := eq_sound (P := P) (w := w) (x := x) 100 kT ks hk.eq 10000 (by omega) _ _ kvs ks' (keyEq kt key k') (kinds_eq kt ks hk.kd key k') (expl_rep kt key kvs hkv) (expl_rep kt k' ks' e2)
  rw [hk.ag] at this
  rw [e1, ← e3]
  exact this

theorem findAsking_run {x : Rx} {kT : TypeId} {kt : Ty} {ks : List CK} {ka : Bool} (hk : KeyT P kT kt ks ka) {key : kt.den} {kvs : List Value} (hkv : ro x.w x.O kt key kvs) :
    ∀ (pre : List MapEntry) (rest : List MapEntry) (i : Nat), (∀ e ∈ pre, EntIs x kt ka key false e) → (rest = [] ∨ ∃ e r, rest = e :: r ∧ EntIs x kt ka key true e) →
      (Instr.findAsking kT (mkV ka kvs) (pre ++ rest) i).run P w = .ok (rest.head?.map fun e => (i + pre.length, e.val)) w
  | [], rest, i, _, h => by
    rcases h with rfl | ⟨e, r, rfl, he⟩
    · simp [Instr.findAsking]
    · simp [Instr.findAsking, key_equal hk hkv he]
  | e :: pre, rest, i, hp, h => by
    have he := hp e List.mem_cons_self
    have ih := findAsking_run hk hkv pre rest (i + 1) (fun e he => hp e (List.mem_cons_of_mem _ he)) h
    simp only [List.cons_append, Instr.findAsking, Sem.run_bind, key_equal hk hkv he, Result.andThen_ok, Bool.false_eq_true, if_false, ih]
    congr 2
    funext e
    simp; omega

theorem findNow_run {kind : TypeDesc} {k : Value} {Q : Bool → MapEntry → Prop} (hs : ∀ q e, Q q e → Instr.sameNow kind k e.key = some q) :
    ∀ (pre : List MapEntry) (rest : List MapEntry) (i : Nat), (∀ e ∈ pre, Q false e) → (rest = [] ∨ ∃ e r, rest = e :: r ∧ Q true e) →
      Instr.findNow kind k (pre ++ rest) i = some (rest.head?.map fun e => (i + pre.length, e.val))
  | [], rest, i, _, h => by
    rcases h with rfl | ⟨e, r, rfl, he⟩
    · rfl
    · simp [Instr.findNow, hs _ _ he]
  | e :: pre, rest, i, hp, h => by
    have ih := findNow_run hs pre rest (i + 1) (fun e he => hp e (List.mem_cons_of_mem _ he)) h
    simp only [List.cons_append, Instr.findNow, hs _ _ (hp e List.mem_cons_self), ih]
    congr 2
    funext e
    simp; omega

theorem findKey_sound {x : Rx} {kT : TypeId} {kt : Ty} {ks : List CK} {ka : Bool} (hk : KeyT P kT kt ks ka) {key : kt.den} {kvs : List Value} (hkv : ro x.w x.O kt key kvs)
    (pre rest : List MapEntry) (hp : ∀ e ∈ pre, EntIs x kt ka key false e) (hr : rest = [] ∨ ∃ e r, rest = e :: r ∧ EntIs x kt ka key true e) :
    (Instr.findKey kT (mkV ka kvs) (pre ++ rest)).run P w = .ok (rest.head?.map fun e => (pre.length, e.val)) w := by
  have ask := findAsking_run (P := P) (w := w) hk hkv pre rest 0 hp hr
  simp only [Nat.zero_add] at ask
  have heq := hk.eq
  rw [eqTB] at heq
  split at heq
  · rename_i k e1 e2
    simp at heq
    have now := findNow_run (kind := .int k) (k := mkV ka kvs) (Q := fun q e => EntIs x kt ka key q e) (fun q e he => by
      obtain ⟨k', ks', h1, h2, h3⟩ := he
      have hc := kinds_eq kt ks hk.kd key k'
      rw [← heq] at hc
      obtain ⟨a, b, c1, c2, c3⟩ := eqCells_i hc
      have hkv' := expl_rep (x := x) kt key kvs hkv
      have hks' := expl_rep (x := x) kt k' ks' h2
      rw [c1] at hkv'
      rw [c2] at hks'
      obtain ⟨v, r, rfl, g1, g2⟩ := repCs_cons.1 hkv'
      obtain ⟨v', r', rfl, g1', g2'⟩ := repCs_cons.1 hks'
      unfold repC at g1 g1'
      have hka : ka = false := by rw [← hk.ag]; simp [isAggB, e1, aggB]
      subst hka
      rw [h1, ← h3, c3]
      simp only [mkV, Bool.false_eq_true, if_false, List.getD_cons_zero, g1.1, g1'.1, Instr.sameNow, if_true]
      by_cases hab : a = b <;> simp [hab]) pre rest 0 hp hr
    simp [Instr.findKey, run_underlying e1, now]
  · rename_i e1 e2
    simp at heq
    have now := findNow_run (kind := .bool) (k := mkV ka kvs) (Q := fun q e => EntIs x kt ka key q e) (fun q e he => by
      obtain ⟨k', ks', h1, h2, h3⟩ := he
      have hc := kinds_eq kt ks hk.kd key k'
      rw [← heq] at hc
      obtain ⟨a, b, c1, c2, c3⟩ := eqCells_b hc
      have hkv' := expl_rep (x := x) kt key kvs hkv
      have hks' := expl_rep (x := x) kt k' ks' h2
      rw [c1] at hkv'
      rw [c2] at hks'
      obtain ⟨v, r, rfl, g1, g2⟩ := repCs_cons.1 hkv'
      obtain ⟨v', r', rfl, g1', g2'⟩ := repCs_cons.1 hks'
      unfold repC at g1 g1'
      have hka : ka = false := by rw [← hk.ag]; simp [isAggB, e1, aggB]
      subst hka
      rw [h1, ← h3, c3]
      simp only [mkV, Bool.false_eq_true, if_false, List.getD_cons_zero, g1, g1', Instr.sameNow, if_true]
      cases a <;> cases b <;> rfl) pre rest 0 hp hr
    simp [Instr.findKey, run_underlying e1, now]
  · rename_i e1 e2
    simp at heq
    have now := findNow_run (kind := .string) (k := mkV ka kvs) (Q := fun q e => EntIs x kt ka key q e) (fun q e he => by
      obtain ⟨k', ks', h1, h2, h3⟩ := he
      have hc := kinds_eq kt ks hk.kd key k'
      rw [← heq] at hc
      obtain ⟨a, b, c1, c2, c3⟩ := eqCells_s hc
      have hkv' := expl_rep (x := x) kt key kvs hkv
      have hks' := expl_rep (x := x) kt k' ks' h2
      rw [c1] at hkv'
      rw [c2] at hks'
      obtain ⟨v, r, rfl, g1, g2⟩ := repCs_cons.1 hkv'
      obtain ⟨v', r', rfl, g1', g2'⟩ := repCs_cons.1 hks'
      unfold repC at g1 g1'
      have hka : ka = false := by rw [← hk.ag]; simp [isAggB, e1, aggB]
      subst hka
      rw [h1, ← h3, c3]
      simp only [mkV, Bool.false_eq_true, if_false, List.getD_cons_zero, g1.1, g1'.1, Instr.sameNow, if_true]
      rw [beq_toListBytes, bytes_eq]) pre rest 0 hp hr
    simp [Instr.findKey, run_underlying e1, now]
  · rename_i fs n e1 e2
    have hka : ka = true := by rw [← hk.ag]; simp [isAggB, e1, aggB]
    subst hka
    have hnow : Instr.findNow (.struct fs) (mkV true kvs) (pre ++ rest) 0 = none ∨ (pre ++ rest = [] ∧ Instr.findNow (.struct fs) (mkV true kvs) (pre ++ rest) 0 = some none) := by
      cases hpr : pre ++ rest with
      | nil => exact .inr ⟨rfl, rfl⟩
      | cons e r => exact .inl (by simp [Instr.findNow, Instr.sameNow, mkV])
    rcases hnow with hnow | ⟨he, hnow⟩
    · simp [Instr.findKey, run_underlying e1, hnow, ask]
    · obtain ⟨rfl, rfl⟩ := List.append_eq_nil_iff.1 he
      simp [Instr.findKey, run_underlying e1, Instr.findNow]
  · cases heq

/-- A map's entries, parted at a key. -/
theorem map_cases {x : Rx} {kt vt : Ty} {ka va : Bool} (key : kt.den) : ∀ (l : List (kt.den × vt.den)) (es : List MapEntry), mapRep x kt vt ka va l es →
    (mget l key = none ∧ (∀ e ∈ es, EntIs x kt ka key false e) ∧ (∀ v, mset l key v = l ++ [(key, v)])) ∨
    ∃ pre e post k' ks' v vs, es = pre ++ e :: post ∧ (∀ e ∈ pre, EntIs x kt ka key false e) ∧ e.key = mkV ka ks' ∧ ro x.w x.O kt k' ks' ∧ keyEq kt key k' = true ∧ mget l key = some v ∧ e.val = mkV va vs ∧ ro x.w x.O vt v vs ∧
      ∀ (y : Rx), x.Keeps y → ∀ (v2 : vt.den) (e2 : MapEntry) (kvs vs2 : List Value), e2.key = mkV ka kvs → ro y.w y.O kt key kvs → e2.val = mkV va vs2 → ro y.w y.O vt v2 vs2 → mapRep y kt vt ka va (mset l key v2) (pre ++ e2 :: post)
  | [], es, h => by
    rw [show es = [] from h]
    exact .inl ⟨rfl, (fun e he => by cases he), fun v => rfl⟩
  | p :: l, es, h => by
    obtain ⟨e, r, ks, vs, he, e1, h1, e2, h2, h3⟩ := h
    subst he
    obtain ⟨a, b⟩ := p
    by_cases hq : keyEq kt key a = true
    · refine .inr ⟨[], e, r, a, ks, b, vs, rfl, (fun e he => by cases he), e1, h1, hq, by simp [mget, hq], e2, h2, fun y hk v2 e2' kvs vs2 g1 g2 g3 g4 => ?_⟩
      simp only [mset, hq, if_true, List.nil_append]
      exact ⟨e2', r, kvs, vs2, rfl, g1, g2, g3, g4, mapRep_keep hk l r h3⟩
    · simp only [Bool.not_eq_true] at hq
      rcases map_cases key l r h3 with ⟨g1, g2, g3⟩ | ⟨pre, e', post, k', ks', v, vs', rfl, g2, g3, g4, g5, g6, g7, g8, g9⟩
      · refine .inl ⟨by simp [mget, hq, g1], fun e' he' => ?_, fun v => by simp [mset, hq, g3]⟩
        cases List.mem_cons.1 he' with
        | inl k => subst k; exact ⟨a, ks, e1, h1, hq⟩
        | inr k => exact g2 e' k
      · refine .inr ⟨e :: pre, e', post, k', ks', v, vs', rfl, fun e'' he => ?_, g3, g4, g5, by simp [mget, hq, g6], g7, g8, fun y hk v2 e2' kvs vs2 f1 f2 f3 f4 => ?_⟩
        · cases List.mem_cons.1 he with
          | inl k => subst k; exact ⟨a, ks, e1, h1, hq⟩
          | inr k => exact g2 e'' k
        · simp only [mset, hq, Bool.false_eq_true, if_false, List.cons_append]
          exact ⟨e, pre ++ e2' :: post, ks, vs, rfl, e1, ro_keep hk.k _ _ _ h1, e2, ro_keep hk.k _ _ _ h2, g9 y hk v2 e2' kvs vs2 f1 f2 f3 f4⟩

theorem mapRep_append {x : Rx} {kt vt : Ty} {ka va : Bool} : ∀ (l l' : List (kt.den × vt.den)) (es es' : List MapEntry), mapRep x kt vt ka va l es → mapRep x kt vt ka va l' es' → mapRep x kt vt ka va (l ++ l') (es ++ es')
  | [], _, _, _, h, k => by rw [show _ = _ from h]; exact k
  | p :: l, l', es, es', h, k => by
    obtain ⟨e, r, ks, vs, he, e1, h1, e2, h2, h3⟩ := h
    subst he
    exact ⟨e, r ++ es', ks, vs, rfl, e1, h1, e2, h2, mapRep_append l l' r es' h3 k⟩

theorem s_makeMap (h : RepM cx σ N m w) (hfr : ∀ id, fr ≤ id → id < fr + 32 → N id) {t : TypeId} {r : Option Operand} (ho : o.op = .makeMap t r) (ht : TabOK P T)
    (hp : (opEff T G o ((opsOf o.op).map av) m fr).pre) : Runs P w (Res cx σ N m w fr (opEff T G o ((opsOf o.op).map av) m fr)) ((execOp ρ o).run P w) := by
  rw [ho] at hp ⊢
  simp only [opEff, ho] at hp ⊢
  split at hp
  · rename_i k e hd
    split at hp
    · rename_i kt vt hk hv
      split at hp
      · rename_i hc
        rw [if_pos hc]
        have hr : r = none := by cases r <;> simp_all
        subst hr
        have hrun : (execOp ρ o).run P w = .ok (.value (.map (some w.heap.size))) (w.alloc (.map #[] 0)) := by
          simp [execOp, ho, Instr.makeMap]
        obtain ⟨g1, g2⟩ := h.put (hfr fr (by omega) (by omega)) (.map (some w.heap.size)) (.mapb kt vt (TI.of T k).agg (TI.of T e).agg []) (w.alloc (.map #[] 0)) rfl (alloc_world w _) (fun b _ hb => by simp [blkOf] at hb; omega)
          (fun hk => ⟨w.heap.size, #[], 0, by simp only [rx]; rw [upd_same], heap_alloc_new w _, rfl⟩)
        obtain ⟨g3, g4⟩ := g1.weaken (N' := Nx N fr) (fun id hid => ⟨hid.1, fun e => hid.2 ⟨by omega, by omega⟩⟩)
        refine runs_value hrun ⟨upd σ fr (.map (some w.heap.size)), g3, ⟨g2.k.trans g4.k (by simp [rx]), fun id hid => ?_, fun id hid => hid.1⟩, ?_, trivial⟩
        · exact g2.σ id hid
        · unfold repA repC
          exact ⟨fun k => k.2 ⟨by omega, by omega⟩, by simp only [rx]; rw [upd_same]⟩
      · exact hp.elim
    · exact hp.elim
  · exact hp.elim

theorem av_mkV {x : Rx} (hσ : ∀ id, (x.σ id).oneCell' = true) {a : AV} {v : Value} (h : repA x a v) (hk : a.cells.all known = true) (hne : a.cells ≠ []) : ∃ vs, v = mkV a.ag vs ∧ repCs x a.cells vs := by
  cases a with
  | one c =>
    unfold repA at h
    exact ⟨[v], rfl, repCs_cons.2 ⟨v, [], rfl, h, repCs_nil.2 rfl⟩⟩
  | agg cs =>
    unfold repA at h
    obtain ⟨vs, rfl, h1⟩ := h
    exact ⟨vs, rfl, h1⟩
  | tup _ => exact absurd rfl hne
  | ifd _ _ => exact absurd rfl hne

theorem impl_ne {m : Mem} {t : Ty} {cs : List C1} {y : t.den} (h : impl m t cs = some y) (ht : 0 < t.n) : cs ≠ [] := by
  rintro rfl
  induction t with
  | int k => simp [impl, implI] at h
  | bool => simp [impl, implB] at h
  | str => simp [impl, implS] at h
  | unit => simp [Ty.n] at ht
  | sl t _ => simp [impl, implL] at h
  | pair a b iha ihb =>
    obtain ⟨h1, h2⟩ := implP_some h
    simp at h1 h2
    simp only [Ty.n] at ht
    rcases Nat.eq_zero_or_pos a.n with e | e
    · exact ihb (by omega) h2
    · exact iha e h1

theorem zTy_ro {w : World} {O : Nat → Prop} : ∀ (t : Ty) (vs : List Value), zTy t vs → ro w O t t.dflt vs
  | .int k, vs, h => ⟨h, by unfold InR IntKind.min IntKind.max; cases k <;> simp [IntKind.signed, IntKind.bits, Ty.dflt]⟩
  | .bool, vs, h => h
  | .str, vs, h => ⟨h, by simp [Ty.dflt, maxLen]⟩
  | .unit, vs, h => h
  | .sl t, vs, h => ⟨none, 0, 0, h, rfl, Nat.le_refl _, by simp [maxLen], .inl rfl⟩
  | .pair a b, vs, ⟨x, y, e, h1, h2⟩ => ⟨x, y, e, zTy_ro a x h1, zTy_ro b y h2⟩

theorem avOf_mkV {x : Rx} {ag : Bool} {t : Ty} {y : t.den} {vs : List Value} (h : ro x.w x.O t y vs) (h1 : ag = false → t.n = 1) : repA x (avOf ag (expl t y)) (mkV ag vs) :=
  avOf_rep (expl_rep t y vs h) (fun hg => by rw [expl_len]; exact h1 hg)

theorem keyT_of {kT : TypeId} {kt : Ty} (ht : TabOK P T) (hk : kindsOf kt = some (TI.of T kT).eqn) (hne : (TI.of T kT).eqn ≠ []) : KeyT P kT kt (TI.of T kT).eqn (TI.of T kT).agg := by
  have htt := TI.of_ok ht kT (fun e => hne (by rw [e]; rfl))
  obtain ⟨dd, hdd, hag⟩ := htt.agg
  exact ⟨(htt.eqn hne).1, hk, by simp [isAggB, hdd, hag]⟩

theorem s_lookup (h : RepM cx σ N m w) {t : TypeId} {x y : Operand} {ok : Bool} (ho : o.op = .lookup t x y ok) (ht : TabOK P T) (hx : repA (rx cx σ N m w) (av x) (ρ x)) (hy : repA (rx cx σ N m w) (av y) (ρ y))
    (hp : (opEff T G o [av x, av y] m fr).pre) : Runs P w (Res cx σ N m w fr (opEff T G o [av x, av y] m fr)) ((execOp ρ o).run P w) := by
  simp only [opEff, ho] at hp ⊢
  split at hp <;> rename_i heq
  · rename_i kT eT id k hd
    simp at heq
    rw [heq.1] at hx
    rw [heq.2] at hy
    split at hp
    · rename_i kt vt ka va l hm
      split at hp
      · rename_i k' him
        split at hp
        · rename_i hc
          rw [if_pos hc]
          obtain ⟨c1, c2, c3, c4, c5, c6, c7, c8, c9, c10⟩ := hc
          have hu := (TI.of_ok ht t (fun e => by rw [e] at hd; cases hd)).map kT eT hd
          have hte := TI.of_ok ht eT (fun e => by rw [e] at c7; cases c7)
          have htk := TI.of_ok ht kT (fun e => c4 (by rw [e]; rfl))
          obtain ⟨iz, zs, hiz, hz, hzt⟩ := hte.zt vt c7 c2
          have hvn : (TI.of T eT).agg = false → vt.n = 1 := fun hh => by rw [(hte.ty vt c2).1]; exact hte.one hh
          have hK := keyT_of (kt := kt) ht c3 c4
          rw [← c10] at hK
          unfold repA repC at hx
          obtain ⟨hn, e1⟩ := hx
          simp only [rx] at e1 hn
          have hb := h.blk id
          rw [hm] at hb
          obtain ⟨r, es, clock, e2, e3, hmr⟩ := hb
          simp only [rx] at e2 e3
          obtain ⟨kvs, e4, hkr⟩ := av_mkV (x := rx cx σ N m w) h.hone hy c5 (impl_ne him (by have := (htk.ty kt c1); omega))
          rw [c8] at e4
          have hro := impl_ro h kt k.cells k' kvs him hkr (fun id hid => by rw [c6] at hid; cases hid)
          have hck := checkKey_sound (P := P) (w := w) (x := rx cx σ N m w) (em := es.isEmpty) 100 kT _ hK.eq 10000 (by omega) _ kvs _ (kinds_eq kt _ c3 k' k') (expl_rep kt k' kvs hro)
          rw [hK.ag] at hck
          -- what is found
          have hrun : ∀ (res : Option (Nat × Value)), (Instr.findKey kT (mkV ka kvs) es.toList).run P w = .ok res w →
              (execOp ρ o).run P w = .ok (.value (if ok then .tuple #[(res.map (·.2)).getD (mkV (TI.of T eT).agg zs), .bool res.isSome] else (res.map (·.2)).getD (mkV (TI.of T eT).agg zs))) w := by
            intro res hf
            cases res with
            | none => simp [execOp, ho, Instr.lookup, run_underlying hu, e1, e2, e3, e4, hck, hf, run_zeroValue hiz hz, getObj, Sem.run]
            | some p => simp [execOp, ho, Instr.lookup, run_underlying hu, e1, e2, e3, e4, hck, hf, getObj, Sem.run]
          have fin : ∀ (res : Option (Nat × Value)), (Instr.findKey kT (mkV ka kvs) es.toList).run P w = .ok res w → (∃ vs, (res.map (·.2)).getD (mkV (TI.of T eT).agg zs) = mkV (TI.of T eT).agg vs ∧ ro w (Owned cx σ m) vt ((mget l k').getD vt.dflt) vs) → (mget l k').isSome = res.isSome →
              Runs P w (Res cx σ N m w fr ⟨True, (if ok then .tup [avOf (TI.of T eT).agg (expl vt ((mget l k').getD vt.dflt)), .one (.bool (mget l k').isSome)] else avOf (TI.of T eT).agg (expl vt ((mget l k').getD vt.dflt))), [], Wf vt ((mget l k').getD vt.dflt)⟩) ((execOp ρ o).run P w) := by
            intro res hf hv hs
            obtain ⟨vs, hv1, hv2⟩ := hv
            refine runs_value (hrun res hf) (Res.pure h rfl ?_ (ro_wf vt _ vs hv2))
            have ha := avOf_mkV (x := rx cx σ N m w) (ag := (TI.of T eT).agg) hv2 hvn
            cases ok with
            | false => simp only [Bool.false_eq_true, if_false]; rw [hv1]; exact ha
            | true =>
              simp only [if_true]
              unfold repA
              refine ⟨_, rfl, ?_⟩
              unfold repAs
              refine ⟨_, _, rfl, by rw [hv1]; exact ha, ?_⟩
              unfold repAs
              refine ⟨_, _, rfl, by rw [hs]; exact repA_bool _, ?_⟩
              unfold repAs; rfl
          rcases map_cases k' l es.toList hmr with ⟨g1, g2, g3⟩ | ⟨pre, e, post, k2, ks2, v, vs, g1, g2, g3, g4, g5, g6, g7, g8, g9⟩
          · have hf := findKey_sound (P := P) (w := w) (x := rx cx σ N m w) hK hro es.toList [] g2 (.inl rfl)
            rw [List.append_nil] at hf
            refine fin none hf ⟨zs, rfl, by rw [g1]; exact zTy_ro vt zs hzt⟩ (by rw [g1]; rfl)
          · have hf := findKey_sound (P := P) (w := w) (x := rx cx σ N m w) hK hro pre (e :: post) g2 (.inr ⟨e, post, rfl, ⟨k2, ks2, g3, g4, g5⟩⟩)
            rw [← g1] at hf
            refine fin _ hf ⟨vs, by simp [g7, c9], by rw [g6]; exact g8⟩ (by rw [g6]; rfl)
        · exact hp.elim
      · exact hp.elim
    · exact hp.elim
  · exact hp.elim

end
end Go.Ev
