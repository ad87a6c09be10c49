/- The keys of a map, sorted: contracts of maps.Keys and slices.Sorted. -/
import Derived.Test.YtjeinbfnbcempaaEvFun4ToFun5
import Derived.Test.YtjeinbfnbcempaaEvSimp
import Derived.Shelf.SlIter.Sorted
import Derived.Shelf.SlIter.Collect
import Derived.Test.YtjeinbfnbcempaaFwCToE
import Derived.Test.YtjeinbfnbcempaaFwLay
set_option linter.unusedSimpArgs false
set_option linter.unusedVariables false
namespace Go.Ev
open Go.Proofs (encStr)
variable {cx : Cx} {σ : Nat → Value} {N : Nat → Prop} {m : Mem} {w : World} {P : Program}

/-- Bytes, sorted. -/
def bytesOf (s : ByteArray) : List UInt8 := s.data.toList
def sortK (xs : List ByteArray) : List ByteArray := ((xs.map bytesOf).mergeSort leB).map fun l => ⟨l.toArray⟩

/-- A contract given as an effect. -/
structure Raw where
  ctr : Ctr
/-- The map is boxed; the function value captures the box. -/
def keysCtr (tb : TypeId) (g : FuncId) : Ctr := fun avs m fr => match avs with
  | [.one (.map id)] => (match m id with
    | .mapb .. => ⟨True, .one (.fn g [.loc fr 0]), [(fr, .cells tb [.map id])], True⟩
    | _ => bad)
  | _ => bad
def skEff (e : TypeId) (fr : Nat) : Blk → Eff
  | .mapb .str vt false va l => if stq .str vt = true then ⟨l.length ≤ 1000000, .one (.row fr), [(fr, .row e .str (sortK (l.map Prod.fst)))], True⟩ else bad
  | _ => bad
def sortedCtr (g : FuncId) (tb e : TypeId) : Ctr := fun avs m fr => match avs with
  | [.one (.fn g' [.loc i 0])] => (match m i with
    | .cells tb' [.map im] => if g' = g ∧ tb' = tb then skEff e fr (m im) else bad
    | _ => bad)
  | _ => bad

theorem repAs_1 {x : Rx} {a : AV} {vs : List Value} (h : repAs x [a] vs) : ∃ v, vs = [v] ∧ repA x a v := by
  unfold repAs at h
  obtain ⟨v, r, rfl, h1, h2⟩ := h
  unfold repAs at h2
  subst h2
  exact ⟨v, rfl, h1⟩

theorem keys_ctr {ρ : Go.Shelf.Ren} (L : Go.Proofs.SlLaysZ.n7 P ρ) : CtrOk P (ρ.f 7) (keysCtr (ρ.t 23) (ρ.f 10)) := by
  intro D hDS cx hcd σ N m w fr avs vs h hfr hreps hp
  unfold keysCtr at hp ⊢
  split at hp
  case h_2 => exact hp.elim
  rename_i id
  split at hp
  case h_2 => exact hp.elim
  rename_i kt vt ka va l hm
  try simp only [hm]
  obtain ⟨v, rfl, hv⟩ := repAs_1 hreps
  unfold repA repC at hv
  obtain ⟨hn, rfl⟩ := hv
  simp only [rx] at hn ⊢
  have hb := h.blk id
  rw [hm] at hb
  obtain ⟨r, es, cl, e1, e2, e3, e4⟩ := hb
  simp only [rx] at e1 e2
  rw [e1]
  refine (callsIn_wide.1 (Go.Proofs.AnyZ.keys_in L Fence.wide 1 trivial rfl (some r) w)).mono ?_
  rintro e' w' ⟨rfl, rfl⟩
  refine ⟨_, rfl, ?_⟩
  have hne : id ≠ fr := fun k => hn (k ▸ hfr fr (by omega) (by omega))
  obtain ⟨g1, g2⟩ := h.put (hfr fr (by omega) (by omega)) (.pointer (some ⟨w.heap.size, 0, none⟩)) (.cells (ρ.t 23) [.map id]) (w.alloc (.cells #[.map (some r)] (ρ.t 23))) rfl (alloc_world w _) (fun b _ hb => by simp [blkOf] at hb; omega)
    (fun hk => ⟨w.heap.size, [.map (some r)], by simp only [rx]; rw [upd_same], heap_alloc_new w _, repCs_cons.2 ⟨_, [], rfl, by
        unfold repC
        exact ⟨fun k => hn k.1, by simp only [rx]; rw [upd_ne _ _ hne, e1]⟩, repCs_nil.2 rfl⟩, fun u hu => by
        rw [List.mem_singleton.1 hu]; rfl⟩)
  obtain ⟨g3, g4⟩ := g1.weaken (N' := Nx N fr) (fun id hid => ⟨hid.1, fun e => hid.2 ⟨by omega, by omega⟩⟩)
  refine ⟨_, g3, ⟨g2.k.trans g4.k (by simp [rx]), fun i hi => g2.σ i hi, fun i hi => hi.1⟩, ?_, trivial⟩
  unfold repA repC
  refine ⟨[.pointer (some ⟨w.heap.size, 0, none⟩)], rfl, repCs_cons.2 ⟨_, [], rfl, ?_, repCs_nil.2 rfl⟩⟩
  unfold repC
  exact ⟨fun k => k.2 ⟨by omega, by omega⟩, w.heap.size, by simp only [rx]; rw [upd_same], rfl⟩

/-- A new id whose world may have lost the count of draws. -/
theorem RepM.putD (h : RepM cx σ N m w) (hDf : ¬ cx.D) {id : Nat} (hid : N id) (v : Value) (B : Blk) (w' : World) (hv : v.oneCell' = true)
    (hw : RowKit.Below w.heap.size w w') (hb : ∀ b, own B = true → blkOf v = some b → w.heap.size ≤ b)
    (hrep : Rx.Keeps (rx cx σ N m w) (rx cx (upd σ id v) (fun i => N i ∧ i ≠ id) (upd m id B) w') → repB (rx cx (upd σ id v) (fun i => N i ∧ i ≠ id) (upd m id B) w') id B)
    (hnf : ∀ b, Go.Ev.hb v b → blkOf v = some b := by intro b h; first | exact hb_slice.1 h | exact hb_ptr.1 h | exact hb_map.1 h) :
    RepM cx (upd σ id v) (fun i => N i ∧ i ≠ id) (upd m id B) w' ∧ Rx.Keeps (rx cx σ N m w) (rx cx (upd σ id v) (fun i => N i ∧ i ≠ id) (upd m id B) w') := by
  refine h.stepD (fun i => i = id) (fun i hi => hi.1) (fun i hi => by rw [upd_ne _ _ hi.2]; exact h.fresh i hi.1) (fun i hi => ⟨upd_ne _ _ hi, upd_ne _ _ hi⟩)
    (fun i hi => upd_ne _ _ (fun e => hi (e ▸ hid))) (fun b hb _ => hw.block b hb) ⟨hw.size, fun d => absurd d hDf⟩ hw.os hw.tape hw.output (fun i b hi ho hbl => ?_) (fun i i' b hi hi' _ _ _ _ => hi.trans hi'.symm) (fun i hi => ?_) (fun hk i hi => ?_)
  · subst hi; rw [upd_same] at ho hbl; exact .inl (hb b ho (hnf b hbl))
  · subst hi; rw [upd_same]; exact hv
  · subst hi; rw [upd_same]; exact hrep hk

abbrev anyR : Value → Option (DataW Unit × List MemPlace) := fun _ => some (.nil, [])
theorem rg_str {x : MapEntry} {s : ByteArray} {k : TypeId} (hk : P.underlying k = some .string) (h : x.key = .string s) (hs : s.size ≤ maxLen) : WideElems.rd P k anyR x = some (.string (bytesOf s), .nil) := by
  unfold WideElems.rd
  have : keyOf P k x.key = some (.string (bytesOf s)) := by rw [h]; simp [keyOf, hk, mapKey, hs, bytesOf]
  rw [this]; rfl
theorem mapRep_keys {x : Rx} {vt : Ty} {va : Bool} {k : TypeId} (hk : P.underlying k = some .string) : ∀ (l : List (Ty.str.den × vt.den)) (es : List MapEntry), mapRep x .str vt false va l es →
    (∀ e ∈ es, ∃ y, WideElems.rd P k anyR e = some y) ∧ (es.map (WideElems.rg P k anyR)).map (fun p => Go.strOf p.1) = (l.map Prod.fst).map bytesOf ∧ (∀ s ∈ l.map Prod.fst, ByteArray.size s ≤ maxLen) ∧ es.length = l.length
  | [], es, h => by rw [show es = [] from h]; exact ⟨fun e he => by (cases he), rfl, fun s hs => by (cases hs), rfl⟩
  | p :: l, es, h => by
    obtain ⟨e, r, ks, vs, rfl, e1, ⟨rfl, hsz⟩, e2, h2, h3⟩ := h
    obtain ⟨g1, g2, g3, g4⟩ := mapRep_keys hk l r h3
    have hr := rg_str (x := e) (s := p.1) hk (by rw [e1]; rfl) hsz
    refine ⟨fun e' he => ?_, ?_, fun s hs => ?_, by simp [g4]⟩
    · rcases List.mem_cons.1 he with rfl | he
      · exact ⟨_, hr⟩
      · exact g1 e' he
    · simp only [List.map_cons, g2]
      rw [show WideElems.rg P k anyR e = (.string (bytesOf p.1), .nil) by unfold WideElems.rg; rw [hr]; rfl]
      try rfl
    · rcases List.mem_cons.1 hs with rfl | hs
      · exact hsz
      · exact g3 s hs

theorem ba_bytes (s : ByteArray) : (⟨(bytesOf s).toArray⟩ : ByteArray) = s := by
  unfold bytesOf; simp
theorem sortK_mem {xs : List ByteArray} {s : ByteArray} : s ∈ sortK xs ↔ s ∈ xs := by
  unfold sortK
  rw [List.mem_map]
  constructor
  · rintro ⟨l, hl, rfl⟩
    rw [(List.mergeSort_perm _ _).mem_iff, List.mem_map] at hl
    obtain ⟨a, ha, rfl⟩ := hl
    rw [ba_bytes]; exact ha
  · intro h
    exact ⟨bytesOf s, by rw [(List.mergeSort_perm _ _).mem_iff]; exact List.mem_map_of_mem h, ba_bytes s⟩
theorem sortK_len (xs : List ByteArray) : (sortK xs).length = xs.length := by simp [sortK]
theorem strs_ro {w : World} {O : Nat → Prop} : ∀ (xs : List ByteArray), (∀ x ∈ xs, x.size ≤ maxLen) → roAll (ro w O .str) xs (xs.map Value.string)
  | [], _ => rfl
  | x :: xs, h => ⟨[.string x], _, rfl, ⟨rfl, h x List.mem_cons_self⟩, strs_ro xs fun y hy => h y (List.mem_cons_of_mem _ hy)⟩

theorem sorted_ctr {ρ7 ρ : Go.Shelf.Ren} (L : Go.Proofs.SlLaysZ.n6 P ρ) (L7 : Go.Proofs.SlLaysZ.n10 P ρ7) (hk : P.underlying (ρ7.t 26) = some .string) (hS : ¬ StrictP P)
    (hsort : ∀ n, Go.Proofs.AnyZ.SortsIn P ρ Fence.wide n) (e9 : ∀ args w, (callFunc (ρ.f 9) args).run P w = .ok (.enter (ρ.f 9) args) w) (eg : ∀ args w, (callFunc (ρ7.f 10) args).run P w = .ok (.enter (ρ7.f 10) args) w) :
    CtrOk P (ρ.f 6) (sortedCtr (ρ7.f 10) (ρ7.t 23) (ρ.t 26)) := by
  intro D hDS cx hcd σ N m w fr avs vs h hfr hreps hp
  have hDf : ¬ cx.D := fun d => hS (hDS (hcd ▸ d))
  unfold sortedCtr at hp ⊢
  split at hp
  case h_2 => exact hp.elim
  rename_i g' i
  split at hp
  case h_2 => exact hp.elim
  rename_i tb' im hmi
  split at hp
  case isFalse => exact hp.elim
  rename_i hc
  obtain ⟨rfl, rfl⟩ := hc
  rw [if_pos ⟨rfl, rfl⟩]
  unfold skEff at hp ⊢
  split at hp
  case h_2 => exact hp.elim
  rename_i vt va l hmm
  split at hp
  case isFalse => exact hp.elim
  rename_i hst
  rw [if_pos hst]
  have hlen : l.length ≤ 1000000 := hp
  obtain ⟨v, rfl, hv⟩ := repAs_1 hreps
  unfold repA repC at hv
  obtain ⟨us, rfl, hus⟩ := hv
  obtain ⟨u, r0, rfl, hu, hr0⟩ := repCs_cons.1 hus
  rw [repCs_nil.1 hr0]
  unfold repC at hu
  obtain ⟨hni, b0, hσi, rfl⟩ := hu
  simp only [rx] at hni hσi
  have hbi := h.blk i
  rw [hmi] at hbi
  obtain ⟨b1, ws, e1, e2, e3, e4⟩ := hbi
  simp only [rx] at e1 e2
  rw [hσi] at e1
  cases e1
  obtain ⟨u2, r2, rfl, hu2, hr2⟩ := repCs_cons.1 e3
  rw [repCs_nil.1 hr2] at e2
  unfold repC at hu2
  obtain ⟨hnm, rfl⟩ := hu2
  simp only [rx] at hnm e2
  have hbm := h.blk im
  rw [hmm] at hbm
  obtain ⟨r, es, cl, q1, q2, q3, q4⟩ := hbm
  simp only [rx] at q1 q2
  rw [q1] at e2
  obtain ⟨k1, k2, k3, k4⟩ := mapRep_keys (P := P) hk l es.toList q3
  have hes : es.size = l.length := by rw [← k4]; simp
  have hmax : l.length ≤ maxLen := by unfold maxLen; omega
  let D0 : DataW Unit := .map ((es.toList.map (WideElems.rg P (ρ7.t 26) anyR)).foldr DataW.insert [])
  have hown : w.ownsMap P (ρ7.t 26) anyR r l.length D0 := ⟨es, cl, q2, ⟨by omega, q4 hst, k1⟩, by omega, rfl⟩
  have hsize : Maps.size D0 = l.length := by
    show (List.foldr DataW.insert [] _).length = _
    rw [(WideShapes.sorted_perm _).length_eq]; simp [hes]
  have hcell : w.cell? ⟨b0, 0, none⟩ = some (.map (some r)) := by
    have e2' : w.heap[b0]? = some (.cells #[.map (some r)] (ρ7.t 23) (0, 0)) := e2
    simp [World.cell?, e2']
  have hseq := Go.Proofs.AnyZ.keys_gives L7 Fence.wide 2 trivial rfl (by omega) b0 r l.length D0 w (Array.getElem?_eq_some_iff.1 e2).1 hcell hown
  have hperm : ∀ ss : List (List UInt8), ss.Perm (strKeys D0) → ss.mergeSort leB = ((l.map Prod.fst).map bytesOf).mergeSort leB := fun ss hss => by
    refine mergeSort_of_perm (hss.trans ?_)
    rw [← k2]
    exact (WideShapes.sorted_perm _).map _
  have hcall := Go.Proofs.AnyZ.sorted_in L Fence.wide 5 trivial trivial trivial trivial rfl (by omega) (hsort _) e9 (ρ7.f 10) #[.pointer (some ⟨b0, 0, none⟩)] trivial eg _ (Maps.size D0) (by omega) (by omega) w hseq
  refine (callsIn_wide.1 hcall).mono ?_
  rintro e' w' ⟨v, ss, rfl, hss, hrow, hnil, hbel⟩
  refine ⟨v, rfl, ?_⟩
  have hflat : (ss.mergeSort leB).map encStr = (sortK (l.map Prod.fst)).map Value.string := by
    rw [hperm ss hss]
    unfold sortK
    generalize List.mergeSort _ leB = q
    rw [List.map_map]
    rfl
  have hcount : ss.length = (sortK (l.map Prod.fst)).length := by
    have := congrArg List.length hflat
    simpa using this
  rw [hcount] at hrow
  have hrow' : RowR w' (ρ.t 26) 1 v (sortK (l.map Prod.fst)).length ((sortK (l.map Prod.fst)).map Value.string) := by
    have hrow := hrow
    rw [show (ss.mergeSort (fun x y => decide (x ≤ y))) = ss.mergeSort leB from rfl, hflat] at hrow
    refine ⟨hrow.1, ?_⟩
    rcases hrow.2 with ⟨rfl, hz⟩ | ⟨g, cap, cur, rfl, hbase, hg, r1, r2, r3, r4⟩
    · exact .inl ⟨hz, none, rfl⟩
    · exact (rowR_of hrow.1 hg r1 r2 r3 r4).2
  have hnew : ∀ b, blkOf v = some b → w.heap.size ≤ b := fun b hb => by
    rcases hrow.2 with ⟨rfl, hz⟩ | ⟨g, cap, cur, rfl, hbase, hg, r1, r2, r3, r4⟩
    · simp [blkOf] at hb
    · by_cases hc : 0 < cap
      · rw [blkOf_slice hc] at hb; cases hb; exact hbase
      · have : cap = 0 := by omega
        subst this
        simp [blkOf] at hb
  have hone : v.oneCell' = true := by
    rcases hrow.2 with ⟨rfl, hz⟩ | ⟨g, cap, cur, rfl, hbase, hg, r1, r2, r3, r4⟩ <;> rfl
  have hvs : ∀ b, Go.Ev.hb v b → blkOf v = some b := by
    rcases hrow.2 with ⟨rfl, hz⟩ | ⟨g, cap, cur, rfl, hbase, hg, r1, r2, r3, r4⟩
    · intro b h; exact hb_slice.1 h
    · intro b h; exact hb_slice.1 h
  obtain ⟨g1, g2⟩ := h.putD hDf (hfr fr (by omega) (by omega)) v (.row (ρ.t 26) .str (sortK (l.map Prod.fst))) w' hone hbel (fun b _ hb => hnew b hb)
    (fun hk' => ⟨_, _, rfl, by simp only [rx]; rw [upd_same]; exact hrow', strs_ro _ fun x hx => k3 x (sortK_mem.1 hx)⟩) hvs
  obtain ⟨g3, g4⟩ := g1.weaken (N' := Nx N fr) (fun id hid => ⟨hid.1, fun e => hid.2 ⟨by omega, by omega⟩⟩)
  refine ⟨_, g3, ⟨g2.k.trans g4.k hbel.size, fun i hi => g2.σ i hi, fun i hi => hi.1⟩, ?_, trivial⟩
  unfold repA repC
  exact ⟨fun k => k.2 ⟨by omega, by omega⟩, by simp only [rx]; rw [upd_same]⟩
theorem not_strict {f : Nat} {fn : Func} (h : P.funcs[f]? = some fn) (hl : loose.contains fn.name = true) : ¬ StrictP P := fun hS => by
  obtain ⟨hf, rfl⟩ := Array.getElem?_eq_some_iff.1 h
  have := (Array.all_eq_true.1 hS) f hf
  rw [hl] at this
  cases this
attribute [go_sem] keysCtr sortedCtr skEff stq
end Go.Ev

/- The contracts of the functions that the statements about forwarding reach: a map's keys in order, a slice turned round, the route. -/
set_option linter.unusedSimpArgs false
set_option linter.unusedVariables false
set_option maxRecDepth 100000
set_option maxHeartbeats 4000000
namespace Go.Proofs.Ytjeinbfnbcempaa
open Go.Ev

theorem sorts44 (n : Nat) : AnyZ.SortsIn Try.prog Try.sorted44_ren Fence.wide n :=
  ⟨fun blk off cap ss W hH hblk hsz => callsIn_wide.2 (AnyM.slices_Sort_string Try.sort63 blk off cap ss W hH hblk hsz),
   fun p cap W => callsIn_wide.2 (AnyM.slices_Sort_string_none Try.sort63 p cap W)⟩
def con45 : Raw := ⟨keysCtr 77 64⟩
theorem c45 : CtrOk Try.prog 45 con45.ctr := keys_ctr Try.keys45
def con44 : Raw := ⟨sortedCtr 64 77 9⟩
theorem c44 : CtrOk Try.prog 44 con44.ctr :=
  sorted_ctr (ρ7 := Try.keys45_ren) Try.sorted44 { Try.keys45 with } Try.underlying9 (not_strict Try.func45 (by decide +kernel)) sorts44 (enters_of Try.func63 (by kernel_rfl) rfl) (enters_of Try.func64 (by kernel_rfl) rfl)
def con43 : Con := { ps := [.o 3 (.int .i64)], rs := [], pre := fun (x : List Int × Unit) => True, out := fun (x : List Int × Unit) => (), nw := fun (x : List Int × Unit) => (x.1.reverse, ()) }
theorem c43 : CtrOk Try.prog 43 con43.ctr :=
  con_sound (G := ⟨[], [], [], []⟩) tab_ok EnvOk.nil rfl Try.func43 rfl con43 525 (by kernel_rfl) (by decide) (by decide) rfl (by decide) rfl (by
    rintro ⟨(l : List Int), _⟩ hpre hwf X hT hG hk hK
    (simp -implicitDefEqProofs only [go_sem, Prod.eta, Option.isSome_none, Option.isSome_some, Int.toNat_zero, Nat.reduceAdd, Nat.reduceMul, Nat.reduceSub, Nat.reduceEqDiff, Nat.reduceLT, Nat.reduceLeDiff, Nat.reduceShiftRight, Nat.reduceMod, Nat.reduceBEq, reduceCtorEq, reduceIte, reduceDIte, Int.reduceNeg, Bool.not_eq_true', Bool.not_eq_false', Bool.or_eq_true, Bool.or_eq_false_iff, Bool.and_eq_true, Bool.and_eq_false_iff, decide_eq_true_eq, decide_eq_false_iff_not, Classical.not_not, not_or, maxLen, con43, hT, hG, hk, hK, Try.results43] at hwf ⊢); (try simp (disch := decide +kernel) only [drawn, true_and, and_true])
    refine fun hL => ⟨by omega, ?_⟩
    refine evk_loop ⟨{ q : Nat × List Int // q.1 ≤ l.length ∧ q.2.length = l.length ∧ 2 * q.1 ≤ l.length + 1 ∧ ∀ k, q.2[k]? = if k < q.1 ∨ l.length - q.1 ≤ k then l.reverse[k]? else l[k]? }, 1000, fun q => [(0, .one (.row 0)), (2, .one (.int .i64 q.1.1)), (3, .one (.int .i64 ((l.length : Int) - 1 - q.1.1)))], fun q => [(0, .row 3 (.int .i64) q.1.2)], fun q => l.length - q.1.1⟩ ⟨(0, l), by simp, rfl, by simp, fun k => by
        by_cases hk : l.length ≤ k
        · simp only [Nat.not_lt_zero, false_or, Nat.sub_zero, hk, if_true]
          rw [List.getElem?_eq_none hk, List.getElem?_eq_none (by simpa using hk)]
        · simp [hk]⟩ ?_ ?_
    · simp only [go_sem, Prod.eta, Option.isSome_none, Option.isSome_some, Int.toNat_zero, Nat.reduceAdd, Nat.reduceMul, Nat.reduceSub, Nat.reduceEqDiff, Nat.reduceLT, Nat.reduceLeDiff, Nat.reduceShiftRight, Nat.reduceMod, Nat.reduceBEq, reduceCtorEq, reduceIte, reduceDIte, Int.reduceNeg]
      try (first | rfl | exact ⟨rfl, rfl⟩ | exact ⟨by omega, rfl⟩)
    · rintro ⟨⟨i, c⟩, (hi : i ≤ l.length), (hc : c.length = l.length), (h2 : 2 * i ≤ l.length + 1), (hq : ∀ k, c[k]? = if k < i ∨ l.length - i ≤ k then l.reverse[k]? else l[k]?)⟩
      (simp -implicitDefEqProofs only [go_sem, Prod.eta, Option.isSome_none, Option.isSome_some, Int.toNat_zero, Nat.reduceAdd, Nat.reduceMul, Nat.reduceSub, Nat.reduceEqDiff, Nat.reduceLT, Nat.reduceLeDiff, Nat.reduceShiftRight, Nat.reduceMod, Nat.reduceBEq, reduceCtorEq, reduceIte, reduceDIte, Int.reduceNeg, Bool.not_eq_true', Bool.not_eq_false', Bool.or_eq_true, Bool.or_eq_false_iff, Bool.and_eq_true, Bool.and_eq_false_iff, decide_eq_true_eq, decide_eq_false_iff_not, Classical.not_not, not_or, maxLen, con43, hT, hG, hk, hK, Try.results43]); (try simp (disch := decide +kernel) only [drawn, true_and, and_true])
      have e1 : ((i : Int)).toNat = i := by omega
      have e2 : ((l.length : Int) - 1 - i).toNat = l.length - 1 - i := by omega
      simp only [e1, e2, List.length_set]
      refine ⟨fun hlt => ⟨by omega, fun _ => ⟨by omega, fun _ => ⟨by omega, fun _ => ⟨by omega, fun _ => ⟨by omega, fun _ => ⟨by omega, by omega, fun _ => ⟨by omega, by omega, by omega, ?_⟩⟩⟩⟩⟩⟩⟩, fun hge => ?_⟩
      · have hg : ∀ k, k < l.length → (k < i ∨ l.length - i ≤ k → False) → c.getD k 0 = l.getD k 0 := fun k hk hn => by
          rw [List.getD_eq_getElem?_getD, List.getD_eq_getElem?_getD, hq, if_neg hn]
        have h3 : 2 * i + 1 < l.length := by omega
        rw [hg i (by omega) (by omega), hg (l.length - 1 - i) (by omega) (by omega)]
        refine fin_lp ⟨(i + 1, (c.set i (l.getD (l.length - 1 - i) 0)).set (l.length - 1 - i) (l.getD i 0)), by dsimp only; omega, by simp [hc], by dsimp only; omega, fun k => ?_⟩ ?_ (by dsimp only; omega)
        · dsimp only
          have hr : ∀ k, k < l.length → l.reverse[k]? = some (l.getD (l.length - 1 - k) 0) := fun k hk => by
            rw [List.getElem?_reverse hk, List.getD_eq_getElem?_getD, List.getElem?_eq_getElem (by omega)]; rfl
          rw [List.getElem?_set]
          by_cases k1 : l.length - 1 - i = k
          · subst k1
            rw [if_pos rfl, if_pos (by simp [hc]; omega), if_pos (by omega), hr _ (by omega), show l.length - 1 - (l.length - 1 - i) = i by omega]
          · rw [if_neg k1, List.getElem?_set]
            by_cases k2 : i = k
            · subst k2
              rw [if_pos rfl, if_pos (by omega), if_pos (by omega), hr _ (by omega)]
            · rw [if_neg k2, hq]
              by_cases k3 : k < i ∨ l.length - i ≤ k
              · rw [if_pos k3, if_pos (by omega)]
              · rw [if_neg k3, if_neg (by omega)]
        · simp only [go_sem, Prod.eta, Option.isSome_none, Option.isSome_some, Int.toNat_zero, Nat.reduceAdd, Nat.reduceMul, Nat.reduceSub, Nat.reduceEqDiff, Nat.reduceLT, Nat.reduceLeDiff, Nat.reduceShiftRight, Nat.reduceMod, Nat.reduceBEq, reduceCtorEq, reduceIte, reduceDIte, Int.reduceNeg]
          try (first | rfl | exact ⟨rfl, rfl⟩ | (and_intros <;> first | rfl | omega))
      · refine List.ext_getElem? fun k => ?_
        rw [hq]
        by_cases k3 : k < i ∨ l.length - i ≤ k
        · rw [if_pos k3]
        · rw [if_neg k3]
          have h4 : l.length - 1 - k = k := by omega
          rw [List.getElem?_reverse (by omega), h4])
end Go.Proofs.Ytjeinbfnbcempaa

/- The route. -/
set_option linter.unusedSimpArgs false
set_option linter.unusedVariables false
set_option maxRecDepth 100000
set_option maxHeartbeats 4000000
namespace Go.Proofs.Ytjeinbfnbcempaa
open Go.Ev

abbrev Itn := List Int × List Lbl
def byOf (K : LMap) (p : ByteArray) : Int := ((mgetS K p).getD (0, 0)).2
def wayV (l : List Svc) (K : LMap) : Nat → ByteArray → List Int
  | 0, _ => []
  | k + 1, p => if byOf K p < 0 then [] else byOf K p :: wayV l K k (l.getD (byOf K p).toNat sv0).2.1
def lblsV (K : LMap) : List Lbl := (sortK (K.map Prod.fst)).map fun p => (p, tmOf K p)
def routeV (l : List Svc) (f t : ByteArray) (r n : Int) : Itn × Int :=
  if argsV l f t r n ≠ 0 then (([], []), argsV l f t r n)
  else if (mgetS (labelsV l f r n) t).isSome = false then (([], []), 11)
  else (((wayV l (labelsV l f r n) ((tmOf (labelsV l f r n) t).toNat + 1) t).reverse, lblsV (labelsV l f r n)), 0)
/-- A port's label leads to the label of the port from which its service leaves. -/
theorem way_step {l : List Svc} {f : ByteArray} {r n : Int} (hA : ArgOk l r n) {K : LMap} (hK : LOK l f r n K) {p : ByteArray} (hp : (mgetS K p).isSome = true) (hb : ¬ byOf K p < 0) :
    (byOf K p).toNat < l.length ∧ (mgetS K (l.getD (byOf K p).toNat sv0).2.1).isSome = true ∧ 0 ≤ tmOf K (l.getD (byOf K p).toNat sv0).2.1 ∧ tmOf K (l.getD (byOf K p).toNat sv0).2.1 < tmOf K p := by
  obtain ⟨v, hv⟩ := Option.isSome_iff_exists.1 hp
  have e1 : byOf K p = v.2 := by unfold byOf; rw [hv]; rfl
  have e2 : tmOf K p = v.1 := by unfold tmOf; rw [hv]; rfl
  rw [e1] at hb ⊢
  rw [e2]
  rcases hK.base.snd p v hv with ⟨_, rfl⟩ | ⟨i, g1, g2, g3, g4, u, g5, g6⟩
  · simp at hb
  · have hi : v.2.toNat = i := by omega
    rw [hi]
    have e3 : tmOf K (l.getD i sv0).2.1 = u.1 := by unfold tmOf; rw [g5]; rfl
    rw [e3]
    have h1 := (takV_bd g6 hA.n0).2
    have h2 := svOk_bd (get_sv hA g2).1
    have h3 := (hK.base.low _ u g5).1
    have h4 := hA.r0
    exact ⟨g2, by rw [g5]; rfl, by omega, by omega⟩
theorem wayV_any {l : List Svc} {f : ByteArray} {r n : Int} (hA : ArgOk l r n) {K : LMap} (hK : LOK l f r n K) : ∀ (k j : Nat) (p : ByteArray), (mgetS K p).isSome = true → (tmOf K p).toNat < k → (tmOf K p).toNat < j → wayV l K k p = wayV l K j p
  | 0, _, _, _, h, _ => by omega
  | _ + 1, 0, _, _, _, h => by omega
  | k + 1, j + 1, p, hp, h1, h2 => by
    unfold wayV
    by_cases hb : byOf K p < 0
    · rw [if_pos hb, if_pos hb]
    · rw [if_neg hb, if_neg hb]
      obtain ⟨g1, g2, g3, g4⟩ := way_step hA hK hp hb
      rw [wayV_any hA hK k j _ g2 (by omega) (by omega)]
/-- The way to a port, from its end. -/
def wayOf (l : List Svc) (K : LMap) (p : ByteArray) : List Int := wayV l K ((tmOf K p).toNat + 1) p
theorem wayOf_end {l : List Svc} {K : LMap} {p : ByteArray} (hb : byOf K p < 0) : wayOf l K p = [] := by unfold wayOf wayV; rw [if_pos hb]
theorem wayOf_step {l : List Svc} {f : ByteArray} {r n : Int} (hA : ArgOk l r n) {K : LMap} (hK : LOK l f r n K) {p : ByteArray} (hp : (mgetS K p).isSome = true) (hb : ¬ byOf K p < 0) :
    wayOf l K p = byOf K p :: wayOf l K (l.getD (byOf K p).toNat sv0).2.1 := by
  obtain ⟨g1, g2, g3, g4⟩ := way_step hA hK hp hb
  unfold wayOf
  rw [wayV, if_neg hb, wayV_any hA hK ((tmOf K p).toNat) ((tmOf K (l.getD (byOf K p).toNat sv0).2.1).toNat + 1) _ g2 (by omega) (by omega)]

/-! ### the keys -/
theorem len_sub {α : Type} [DecidableEq α] : ∀ {a b : List α}, a.Nodup → (∀ x ∈ a, x ∈ b) → a.length ≤ b.length
  | [], _, _, _ => Nat.zero_le _
  | x :: a, b, h, hs => by
    rw [List.nodup_cons] at h
    have hx := hs x List.mem_cons_self
    have := len_sub (b := b.filter fun y => decide (y ≠ x)) h.2 fun y hy => by
      have hne : y ≠ x := fun e => h.1 (e ▸ hy)
      exact List.mem_filter.2 ⟨hs y (List.mem_cons_of_mem _ hy), by simpa using hne⟩
    have h2 : (b.filter fun y => decide (y ≠ x)).length < b.length := List.length_filter_lt_length_iff_exists.2 ⟨x, hx, by simp⟩
    simp only [List.length_cons]; omega
theorem mget_mem (p : ByteArray) : ∀ K : LMap, p ∈ K.map Prod.fst ↔ (mgetS K p).isSome = true
  | [] => by simp [mgetS, mget]
  | (a, u) :: K => by
    have ih := mget_mem p K
    simp only [mgetS, mget, keyS, List.map_cons, List.mem_cons] at ih ⊢
    by_cases h : p = a
    · simp [h]
    · simp only [h, false_or, decide_false, Bool.false_eq_true, if_false, ih]
theorem mset_nodup (p : ByteArray) (v : Int × Int) : ∀ K : LMap, (K.map Prod.fst).Nodup → ((msetS K p v).map Prod.fst).Nodup ∧ ∀ q, q ∈ (msetS K p v).map Prod.fst ↔ q = p ∨ q ∈ K.map Prod.fst
  | [], _ => by simp [msetS, mset]
  | (a, u) :: K, h => by
    have hn := h
    simp only [List.map_cons, List.nodup_cons] at hn
    obtain ⟨ih1, ih2⟩ := mset_nodup p v K hn.2
    simp only [msetS, mset, keyS] at ih1 ih2 ⊢
    by_cases e : p = a
    · subst e
      simp only [decide_true, if_true, List.map_cons, List.nodup_cons, List.mem_cons]
      exact ⟨hn, fun q => by rw [← or_assoc, or_self]⟩
    · simp only [e, decide_false, Bool.false_eq_true, if_false, List.map_cons, List.nodup_cons, List.mem_cons]
      refine ⟨⟨fun k => ?_, ih1⟩, fun q => ?_⟩
      · rcases (ih2 a).1 k with k | k
        · exact e k.symm
        · exact hn.1 k
      · rw [ih2, or_left_comm]
theorem rlx_nodup {l : List Svc} {f : ByteArray} {n : Int} {p : ByteArray} {st : QSt} (i : Nat) (h : (st.1.map Prod.fst).Nodup) : ((rlx l f n p st i).1.map Prod.fst).Nodup := by
  unfold rlx
  dsimp only
  split
  · exact h
  · split
    · exact h
    · exact (mset_nodup _ _ _ h).1
theorem rlxs_nodup {l : List Svc} {f : ByteArray} {n : Int} {p : ByteArray} {st : QSt} (h : (st.1.map Prod.fst).Nodup) : ∀ k, ((rlxs l f n p k st).1.map Prod.fst).Nodup
  | 0 => h
  | k + 1 => by rw [rlxs_succ]; exact rlx_nodup k (rlxs_nodup h k)
theorem labQ_nodup {l : List Svc} {f : ByteArray} {n : Int} : ∀ (k : Nat) (st : QSt), (st.1.map Prod.fst).Nodup → ((labQ l f n k st).map Prod.fst).Nodup
  | 0, (K, q), h => h
  | k + 1, (K, []), h => h
  | k + 1, (K, p :: q), h => labQ_nodup k _ (rlxs_nodup (st := (K, q)) h _)
theorem labels_nodup (l : List Svc) (f : ByteArray) (r n : Int) : ((labelsV l f r n).map Prod.fst).Nodup := labQ_nodup _ _ (by simp [QI0])
theorem labels_len {l : List Svc} {f : ByteArray} {r n : Int} (hA : ArgOk l r n) : (labelsV l f r n).length ≤ l.length + 1 := by
  have := len_sub (b := f :: l.map fun s => s.2.2.1) (labels_nodup l f r n) fun p hp => by
    rw [mget_mem] at hp
    obtain ⟨v, hv⟩ := Option.isSome_iff_exists.1 hp
    rcases (labels_ok hA).base.snd p v hv with ⟨rfl, _⟩ | ⟨i, _, h2, h3, _⟩
    · exact List.mem_cons_self
    · refine List.mem_cons_of_mem _ (List.mem_map.2 ⟨l.getD i sv0, ?_, h3⟩)
      have e : l.getD i sv0 = l[i] := by simp [h2]
      rw [e]; exact List.getElem_mem h2
  simpa using this

def con17 : Con := { ps := [.d false (.sl (.pair (.pair .str (.pair (.int .i64) (.pair .str (.int .i64)))) (.pair .str (.pair .str (.pair (.int .i64) (.pair (.int .i64) (.int .i64))))))), .d false .str, .d false .str, .d false (.int .i64), .d false (.int .i64)], rs := [.d true (.pair (.sl (.int .i64)) (.sl (.pair .str (.int .i64)))), .d false (.int .i64)], pre := fun (x : List Svc × ByteArray × ByteArray × Int × Int × Unit) => True, out := fun (x : List Svc × ByteArray × ByteArray × Int × Int × Unit) => ((routeV x.1 x.2.1 x.2.2.1 x.2.2.2.1 x.2.2.2.2.1).1, (routeV x.1 x.2.1 x.2.2.1 x.2.2.2.1 x.2.2.2.2.1).2, ()), nw := id }
theorem c17 : CtrOk Try.prog 17 con17.ctr :=
  con_sound (G := ⟨[(41, con41.ctr), (42, con42.ctr), (43, con43.ctr), (44, con44.ctr), (45, con45.ctr)], [], [], []⟩) tab_ok (EnvOk.cons c41 has41 (EnvOk.cons c42 has42 (EnvOk.cons c43 has43 (EnvOk.cons c44 has44 (EnvOk.cons c45 has45 EnvOk.nil))))) rfl Try.func17 rfl con17 8854437722728719694879 (by kernel_rfl) (by decide) (by decide) rfl (by decide) rfl (by
    rintro ⟨(l : List Svc), (f : ByteArray), (t : ByteArray), (r : Int), (n : Int), _⟩ hpre hwf X hT hG hk hK
    (simp -implicitDefEqProofs only [go_sem, Prod.eta, Option.isSome_none, Option.isSome_some, Int.toNat_zero, Nat.reduceAdd, Nat.reduceMul, Nat.reduceSub, Nat.reduceEqDiff, Nat.reduceLT, Nat.reduceLeDiff, Nat.reduceShiftRight, Nat.reduceMod, Nat.reduceBEq, reduceCtorEq, reduceIte, reduceDIte, Int.reduceNeg, Bool.not_eq_true', Bool.not_eq_false', Bool.or_eq_true, Bool.or_eq_false_iff, Bool.and_eq_true, Bool.and_eq_false_iff, decide_eq_true_eq, decide_eq_false_iff_not, Classical.not_not, not_or, maxLen, con17, con41, con42, con43, con44, con45, hT, hG, hk, hK, Try.results17] at hwf ⊢); (try simp (disch := decide +kernel) only [drawn, true_and, and_true])
    have hE : argsV l f t r n ≠ 0 → routeV l f t r n = (([], []), argsV l f t r n) := fun h => by unfold routeV; rw [if_pos h]
    refine fun _ => ⟨fun h => ?_, fun h => ?_⟩
    · rw [hE h]; exact ⟨rfl, rfl, rfl⟩
    · obtain ⟨hl, hA, hpf, hpt⟩ := argsV_ok h
      have hKk := labels_ok hA (f := f)
      refine ⟨⟨hl, hA⟩, fun _ => ⟨fun hn => ?_, fun hs _ => ?_⟩⟩
      · have e : routeV l f t r n = (([], []), 11) := by
          unfold routeV; rw [if_neg (by simpa using h)]; exact if_pos hn
        rw [e]; exact ⟨rfl, rfl, rfl⟩
      · have e : routeV l f t r n = (((wayOf l (labelsV l f r n) t).reverse, lblsV (labelsV l f r n)), 0) := by
          unfold routeV; rw [if_neg (by simpa using h)]; exact if_neg (by rw [show (mgetS (labelsV l f r n) t).isSome = true from hs]; simp)
        have hs' : (mgetS (labelsV l f r n) t).isSome = true := hs
        clear hE hs
        have hKl := labels_len hA (f := f)
        generalize labelsV l f r n = K at *
        have htm : ([] : List Int).length + (tmOf K t).toNat ≤ 1048576 := by
          obtain ⟨v, hv⟩ := Option.isSome_iff_exists.1 hs'
          have e2 : tmOf K t = v.1 := by unfold tmOf; rw [hv]; rfl
          have := (hKk.base.low t v hv).2
          rw [e2]; simp; omega
        refine evk_loop ⟨{ q : List Int × ByteArray // (mgetS K q.2).isSome = true ∧ wayOf l K t = q.1 ++ wayOf l K q.2 ∧ q.1.length + (tmOf K q.2).toNat ≤ 1048576 }, 1000, fun q => [(0, .one (.sl (.pair (.pair .str (.pair (.int .i64) (.pair .str (.int .i64)))) (.pair .str (.pair .str (.pair (.int .i64) (.pair (.int .i64) (.int .i64)))))) l false)), (10, .one (.loc 68 0)), (13, .one (.map 64)), (16, .one (.loc 65 0)), (17, .one (.int .i64 (byOf K q.1.2)))],
          fun q => [(64, .mapb .str (.pair (.int .i64) (.int .i64)) false true K), (65, .cells 39 [.row 66, .row 67]), (68, .cells 39 [.row 69, .row 70]), (66, .row 3 (.int .i64) q.1.1), (67, .row 62 (.pair .str (.int .i64)) []), (69, .row 3 (.int .i64) []), (70, .row 62 (.pair .str (.int .i64)) [])], fun q => (tmOf K q.1.2).toNat⟩ ⟨([], t), hs', (by simp : wayOf l K t = [] ++ wayOf l K t), htm⟩ ?_ ?_
        · simp only [go_sem, Prod.eta, Option.isSome_none, Option.isSome_some, Int.toNat_zero, Nat.reduceAdd, Nat.reduceMul, Nat.reduceSub, Nat.reduceEqDiff, Nat.reduceLT, Nat.reduceLeDiff, Nat.reduceShiftRight, Nat.reduceMod, Nat.reduceBEq, reduceCtorEq, reduceIte, reduceDIte, Int.reduceNeg]
          try (first | rfl | exact ⟨rfl, rfl⟩)
        · rintro ⟨⟨acc, p⟩, (hq1 : (mgetS K p).isSome = true), (hq2 : wayOf l K t = acc ++ wayOf l K p), (hq3 : acc.length + (tmOf K p).toNat ≤ 1048576)⟩
          (simp -implicitDefEqProofs only [go_sem, Prod.eta, Option.isSome_none, Option.isSome_some, Int.toNat_zero, Nat.reduceAdd, Nat.reduceMul, Nat.reduceSub, Nat.reduceEqDiff, Nat.reduceLT, Nat.reduceLeDiff, Nat.reduceShiftRight, Nat.reduceMod, Nat.reduceBEq, reduceCtorEq, reduceIte, reduceDIte, Int.reduceNeg, Bool.not_eq_true', Bool.not_eq_false', Bool.or_eq_true, Bool.or_eq_false_iff, Bool.and_eq_true, Bool.and_eq_false_iff, decide_eq_true_eq, decide_eq_false_iff_not, Classical.not_not, not_or, maxLen, con17, con41, con42, con43, con44, con45, hT, hG, hk, hK, Try.results17]); (try simp (disch := decide +kernel) only [drawn, true_and, and_true])
          refine ⟨fun hge => ?_, fun hlt => ?_⟩
          · have hb : ¬ byOf K p < 0 := by omega
            obtain ⟨g1, g2, g3, g4⟩ := way_step hA hKk hq1 hb
            refine ⟨by omega, ⟨by omega, by omega⟩, fun _ _ _ => ?_⟩
            refine fin_lp ⟨(acc ++ [byOf K p], (l.getD (byOf K p).toNat sv0).2.1), g2, ?_, ?_⟩ ?_ ?_
            · rw [hq2, wayOf_step hA hKk hq1 hb]; simp
            · simp only [List.length_append, List.length_singleton]; omega
            · simp only [go_sem, Prod.eta, Option.isSome_none, Option.isSome_some, Int.toNat_zero, Nat.reduceAdd, Nat.reduceMul, Nat.reduceSub, Nat.reduceEqDiff, Nat.reduceLT, Nat.reduceLeDiff, Nat.reduceShiftRight, Nat.reduceMod, Nat.reduceBEq, reduceCtorEq, reduceIte, reduceDIte, Int.reduceNeg]
              try (first | rfl | exact ⟨rfl, rfl⟩ | (and_intros <;> first | rfl | omega))
            · dsimp only; omega
          · have hw : wayOf l K t = acc := by rw [hq2, wayOf_end (by omega)]; simp
            have hsl := sortK_len (K.map Prod.fst)
            rw [List.length_map] at hsl
            refine ⟨by omega, fun _ => ?_⟩
            generalize hks : sortK (K.map Prod.fst) = ks at *
            refine evk_loop ⟨{ j : Nat // j ≤ ks.length }, 1000, fun q => [(10, .one (.loc 68 0)), (13, .one (.map 64)), (16, .one (.loc 65 0)), (69, .one (.row 71)), (70, .one (.int .i64 ks.length)), (71, .one (.int .i64 q.1))],
              fun q => [(64, .mapb .str (.pair (.int .i64) (.int .i64)) false true K), (65, .cells 39 [.row 66, .row 67]), (68, .cells 39 [.row 69, .row 70]), (66, .row 3 (.int .i64) acc.reverse), (67, .row 62 (.pair .str (.int .i64)) ((ks.take q.1).map fun p => (p, tmOf K p))), (69, .row 3 (.int .i64) []), (70, .row 62 (.pair .str (.int .i64)) []), (71, .row 9 .str ks)], fun q => ks.length - q.1⟩ ⟨0, Nat.zero_le _⟩ ?_ ?_
            · simp only [go_sem, Prod.eta, Option.isSome_none, Option.isSome_some, Int.toNat_zero, Nat.reduceAdd, Nat.reduceMul, Nat.reduceSub, Nat.reduceEqDiff, Nat.reduceLT, Nat.reduceLeDiff, Nat.reduceShiftRight, Nat.reduceMod, Nat.reduceBEq, reduceCtorEq, reduceIte, reduceDIte, Int.reduceNeg]
              try (first | rfl | exact ⟨rfl, rfl⟩)
            · rintro ⟨j, (hj : j ≤ ks.length)⟩
              (simp -implicitDefEqProofs only [go_sem, Prod.eta, Option.isSome_none, Option.isSome_some, Int.toNat_zero, Nat.reduceAdd, Nat.reduceMul, Nat.reduceSub, Nat.reduceEqDiff, Nat.reduceLT, Nat.reduceLeDiff, Nat.reduceShiftRight, Nat.reduceMod, Nat.reduceBEq, reduceCtorEq, reduceIte, reduceDIte, Int.reduceNeg, Bool.not_eq_true', Bool.not_eq_false', Bool.or_eq_true, Bool.or_eq_false_iff, Bool.and_eq_true, Bool.and_eq_false_iff, decide_eq_true_eq, decide_eq_false_iff_not, Classical.not_not, not_or, maxLen, con17, con41, con42, con43, con44, con45, hT, hG, hk, hK, Try.results17]); (try simp (disch := decide +kernel) only [drawn, true_and, and_true])
              have hjN : ((j : Int)).toNat = j := by omega
              simp only [hjN, List.length_map, List.length_take]
              refine ⟨fun hlt => ⟨by omega, fun _ => ⟨by omega, fun _ _ => ⟨by omega, by omega, ?_⟩⟩⟩, fun hge => ?_⟩
              · refine fin_lp ⟨j + 1, by omega⟩ ?_ ?_
                · simp only [go_sem, Prod.eta, Option.isSome_none, Option.isSome_some, Int.toNat_zero, Nat.reduceAdd, Nat.reduceMul, Nat.reduceSub, Nat.reduceEqDiff, Nat.reduceLT, Nat.reduceLeDiff, Nat.reduceShiftRight, Nat.reduceMod, Nat.reduceBEq, reduceCtorEq, reduceIte, reduceDIte, Int.reduceNeg]
                  have hx : List.map (fun p => (p, tmOf K p)) (List.take (j + 1) ks) = List.map (fun p => (p, tmOf K p)) (List.take j ks) ++ [(ks.getD j ByteArray.empty, ((mget (kt := .str) K (ks.getD j ByteArray.empty)).getD (0, 0)).1)] := by
                    rw [List.take_succ_eq_append_getElem (by omega : j < ks.length), List.map_append, List.getD_eq_getElem?_getD, List.getElem?_eq_getElem (by omega)]
                    rfl
                  try (first | rfl | exact ⟨rfl, rfl⟩ | (and_intros <;> first | rfl | omega | exact hx.symm | exact hx))
                · dsimp only; omega
              · rw [e, ← hw]
                have : ks.take j = ks := List.take_of_length_le (by omega)
                rw [this]
                refine ⟨rfl, ?_, rfl⟩
                unfold lblsV
                rw [hks])
end Go.Proofs.Ytjeinbfnbcempaa

/- Comparisons, the examples, the generator of services. -/
set_option linter.unusedSimpArgs false
set_option linter.unusedVariables false
set_option maxRecDepth 100000
set_option maxHeartbeats 4000000
namespace Go.Proofs.Ytjeinbfnbcempaa
open Go.Ev

theorem eq_at {α : Type} {a b : List α} (hl : a.length = b.length) (d : α) (h : ∀ j, j < a.length → a.getD j d = b.getD j d) : a = b := by
  refine List.ext_getElem hl fun j h1 h2 => ?_
  have := h j h1
  simpa [List.getD_eq_getElem?_getD, List.getElem?_eq_getElem h1, List.getElem?_eq_getElem h2] using this
def con18 : Con := { ps := [.d false (.sl (.int .i64)), .d false (.sl (.int .i64))], rs := [.d false .bool], pre := fun (x : List Int × List Int × Unit) => True, out := fun (x : List Int × List Int × Unit) => (decide (x.1 = x.2.1), ()), nw := id }
theorem c18 : CtrOk Try.prog 18 con18.ctr :=
  con_sound (G := ⟨[], [], [], []⟩) tab_ok EnvOk.nil rfl Try.func18 rfl con18 33571891 (by kernel_rfl) (by decide) (by decide) rfl (by decide) rfl (by
    rintro ⟨(a : List Int), (b : List Int), _⟩ hpre hwf X hT hG hk hK
    (simp -implicitDefEqProofs only [go_sem, Prod.eta, Option.isSome_none, Option.isSome_some, Int.toNat_zero, Nat.reduceAdd, Nat.reduceMul, Nat.reduceSub, Nat.reduceEqDiff, Nat.reduceLT, Nat.reduceLeDiff, Nat.reduceShiftRight, Nat.reduceMod, Nat.reduceBEq, reduceCtorEq, reduceIte, reduceDIte, Int.reduceNeg, Bool.not_eq_true', Bool.not_eq_false', Bool.or_eq_true, Bool.or_eq_false_iff, Bool.and_eq_true, Bool.and_eq_false_iff, decide_eq_true_eq, decide_eq_false_iff_not, Classical.not_not, not_or, maxLen, con18, hT, hG, hk, hK, Try.results18] at hwf ⊢); (try simp (disch := decide +kernel) only [drawn, true_and, and_true])
    refine fun _ _ => ⟨fun hne => ?_, fun he => ?_⟩
    · exact (decide_eq_false fun k => hne (by rw [k])).symm
    · refine evk_loop ⟨{ i : Nat // i ≤ a.length ∧ ∀ j, j < i → a.getD j 0 = b.getD j 0 }, 1000, fun q => [(0, .one (.sl (.int .i64) a false)), (1, .one (.sl (.int .i64) b false)), (5, .one (.int .i64 q.1))], fun q => [], fun q => a.length - q.1⟩ ⟨0, by omega, fun j h => by omega⟩ ?_ ?_
      · simp only [go_sem, Prod.eta, Option.isSome_none, Option.isSome_some, Int.toNat_zero, Nat.reduceAdd, Nat.reduceMul, Nat.reduceSub, Nat.reduceEqDiff, Nat.reduceLT, Nat.reduceLeDiff, Nat.reduceShiftRight, Nat.reduceMod, Nat.reduceBEq, reduceCtorEq, reduceIte, reduceDIte, Int.reduceNeg]
        try (first | rfl | exact ⟨rfl, rfl⟩)
      · rintro ⟨i, (hi : i ≤ a.length), (hs : ∀ j, j < i → a.getD j 0 = b.getD j 0)⟩
        (simp -implicitDefEqProofs only [go_sem, Prod.eta, Option.isSome_none, Option.isSome_some, Int.toNat_zero, Nat.reduceAdd, Nat.reduceMul, Nat.reduceSub, Nat.reduceEqDiff, Nat.reduceLT, Nat.reduceLeDiff, Nat.reduceShiftRight, Nat.reduceMod, Nat.reduceBEq, reduceCtorEq, reduceIte, reduceDIte, Int.reduceNeg, Bool.not_eq_true', Bool.not_eq_false', Bool.or_eq_true, Bool.or_eq_false_iff, Bool.and_eq_true, Bool.and_eq_false_iff, decide_eq_true_eq, decide_eq_false_iff_not, Classical.not_not, not_or, maxLen, con18, hT, hG, hk, hK, Try.results18]); (try simp (disch := decide +kernel) only [drawn, true_and, and_true])
        have hiN : ((i : Int)).toNat = i := by omega
        simp only [hiN]
        refine fun _ => ⟨fun hlt => ⟨by omega, fun _ _ => ⟨by omega, fun _ _ => ⟨fun hne => ?_, fun hee => ⟨by omega, ?_⟩⟩⟩⟩, fun hge => ?_⟩
        · exact (decide_eq_false fun k => hne (by rw [k])).symm
        · refine fin_lp ⟨i + 1, by omega, fun j hj => ?_⟩ ?_ (by dsimp only; omega)
          · by_cases e : j = i
            · subst e; exact hee
            · exact hs j (by omega)
          · simp only [go_sem, Prod.eta, Option.isSome_none, Option.isSome_some, Int.toNat_zero, Nat.reduceAdd, Nat.reduceMul, Nat.reduceSub, Nat.reduceEqDiff, Nat.reduceLT, Nat.reduceLeDiff, Nat.reduceShiftRight, Nat.reduceMod, Nat.reduceBEq, reduceCtorEq, reduceIte, reduceDIte, Int.reduceNeg]
            try (first | rfl | exact ⟨rfl, rfl⟩ | (and_intros <;> first | rfl | omega))
        · exact (decide_eq_true (eq_at (by omega) 0 fun j hj => hs j (by omega))).symm)
def con19 : Con := { ps := [.d false (.sl (.pair .str (.int .i64))), .d false (.sl (.pair .str (.int .i64)))], rs := [.d false .bool], pre := fun (x : List Lbl × List Lbl × Unit) => True, out := fun (x : List Lbl × List Lbl × Unit) => (decide (x.1 = x.2.1), ()), nw := id }
theorem c19 : CtrOk Try.prog 19 con19.ctr :=
  con_sound (G := ⟨[], [], [], []⟩) tab_ok EnvOk.nil rfl Try.func19 rfl con19 33571891 (by kernel_rfl) (by decide) (by decide) rfl (by decide) rfl (by
    rintro ⟨(a : List Lbl), (b : List Lbl), _⟩ hpre hwf X hT hG hk hK
    (simp -implicitDefEqProofs only [go_sem, Prod.eta, Option.isSome_none, Option.isSome_some, Int.toNat_zero, Nat.reduceAdd, Nat.reduceMul, Nat.reduceSub, Nat.reduceEqDiff, Nat.reduceLT, Nat.reduceLeDiff, Nat.reduceShiftRight, Nat.reduceMod, Nat.reduceBEq, reduceCtorEq, reduceIte, reduceDIte, Int.reduceNeg, Bool.not_eq_true', Bool.not_eq_false', Bool.or_eq_true, Bool.or_eq_false_iff, Bool.and_eq_true, Bool.and_eq_false_iff, decide_eq_true_eq, decide_eq_false_iff_not, Classical.not_not, not_or, maxLen, con19, hT, hG, hk, hK, Try.results19] at hwf ⊢); (try simp (disch := decide +kernel) only [drawn, true_and, and_true])
    refine fun _ _ => ⟨fun hne => ?_, fun he => ?_⟩
    · exact (decide_eq_false fun k => hne (by rw [k])).symm
    · refine evk_loop ⟨{ i : Nat // i ≤ a.length ∧ ∀ j, j < i → a.getD j (ByteArray.empty, 0) = b.getD j (ByteArray.empty, 0) }, 1000, fun q => [(0, .one (.sl (.pair .str (.int .i64)) a false)), (1, .one (.sl (.pair .str (.int .i64)) b false)), (5, .one (.int .i64 q.1))], fun q => [], fun q => a.length - q.1⟩ ⟨0, by omega, fun j h => by omega⟩ ?_ ?_
      · simp only [go_sem, Prod.eta, Option.isSome_none, Option.isSome_some, Int.toNat_zero, Nat.reduceAdd, Nat.reduceMul, Nat.reduceSub, Nat.reduceEqDiff, Nat.reduceLT, Nat.reduceLeDiff, Nat.reduceShiftRight, Nat.reduceMod, Nat.reduceBEq, reduceCtorEq, reduceIte, reduceDIte, Int.reduceNeg]
        try (first | rfl | exact ⟨rfl, rfl⟩)
      · rintro ⟨i, (hi : i ≤ a.length), (hs : ∀ j, j < i → a.getD j (ByteArray.empty, 0) = b.getD j (ByteArray.empty, 0))⟩
        (simp -implicitDefEqProofs only [go_sem, Prod.eta, Option.isSome_none, Option.isSome_some, Int.toNat_zero, Nat.reduceAdd, Nat.reduceMul, Nat.reduceSub, Nat.reduceEqDiff, Nat.reduceLT, Nat.reduceLeDiff, Nat.reduceShiftRight, Nat.reduceMod, Nat.reduceBEq, reduceCtorEq, reduceIte, reduceDIte, Int.reduceNeg, Bool.not_eq_true', Bool.not_eq_false', Bool.or_eq_true, Bool.or_eq_false_iff, Bool.and_eq_true, Bool.and_eq_false_iff, decide_eq_true_eq, decide_eq_false_iff_not, Classical.not_not, not_or, maxLen, con19, hT, hG, hk, hK, Try.results19]); (try simp (disch := decide +kernel) only [drawn, true_and, and_true])
        have hiN : ((i : Int)).toNat = i := by omega
        simp only [hiN]
        refine fun _ => ⟨fun hlt => ⟨by omega, fun _ _ => ⟨by omega, fun _ _ => ⟨fun hne => ?_, fun hee => ⟨by omega, ?_⟩⟩⟩⟩, fun hge => ?_⟩
        · exact (decide_eq_false fun k => by subst k; rcases hne with h | h <;> exact h rfl).symm
        · refine fin_lp ⟨i + 1, by omega, fun j hj => ?_⟩ ?_ (by dsimp only; omega)
          · by_cases e : j = i
            · subst e; exact Prod.ext hee.1 hee.2
            · exact hs j (by omega)
          · simp only [go_sem, Prod.eta, Option.isSome_none, Option.isSome_some, Int.toNat_zero, Nat.reduceAdd, Nat.reduceMul, Nat.reduceSub, Nat.reduceEqDiff, Nat.reduceLT, Nat.reduceLeDiff, Nat.reduceShiftRight, Nat.reduceMod, Nat.reduceBEq, reduceCtorEq, reduceIte, reduceDIte, Int.reduceNeg]
            try (first | rfl | exact ⟨rfl, rfl⟩ | (and_intros <;> first | rfl | omega))
        · exact (decide_eq_true (eq_at (by omega) (ByteArray.empty, 0) fun j hj => hs j (by omega))).symm)
def dayV : List Svc := [(fltsV 0, ⟨#[67, 80, 72]⟩, ⟨#[70, 82, 65]⟩, 10, 20, 5), (fltsV 0, ⟨#[70, 82, 65]⟩, ⟨#[76, 72, 82]⟩, 25, 40, 5), (fltsV 0, ⟨#[67, 80, 72]⟩, ⟨#[76, 72, 82]⟩, 15, 50, 5)]
def con50 : Con := { ps := [], rs := [.d false (.sl (.pair (.pair .str (.pair (.int .i64) (.pair .str (.int .i64)))) (.pair .str (.pair .str (.pair (.int .i64) (.pair (.int .i64) (.int .i64)))))))], pre := fun _ => True, out := fun _ => (dayV, ()), nw := id }
theorem c50 : CtrOk Try.prog 50 con50.ctr :=
  con_sound (G := ⟨[(66, con66.ctr)], [], [], []⟩) tab_ok (EnvOk.cons c66 has66 EnvOk.nil) rfl Try.func50 rfl con50 3 (by kernel_rfl) (by decide) (by decide) rfl (by decide) rfl (by
    rintro _ hpre hwf X hT hG hk hK
    (simp -implicitDefEqProofs only [go_sem, Prod.eta, Option.isSome_none, Option.isSome_some, Int.toNat_zero, Nat.reduceAdd, Nat.reduceMul, Nat.reduceSub, Nat.reduceEqDiff, Nat.reduceLT, Nat.reduceLeDiff, Nat.reduceShiftRight, Nat.reduceMod, Nat.reduceBEq, reduceCtorEq, reduceIte, reduceDIte, Int.reduceNeg, Bool.not_eq_true', Bool.not_eq_false', Bool.or_eq_true, Bool.or_eq_false_iff, Bool.and_eq_true, Bool.and_eq_false_iff, decide_eq_true_eq, decide_eq_false_iff_not, Classical.not_not, not_or, maxLen, con50, con66, hT, hG, hk, hK, Try.results50] at hwf ⊢); (try simp (disch := decide +kernel) only [drawn, true_and, and_true])
    exact fun _ => rfl)
def cph : ByteArray := ⟨#[67, 80, 72]⟩
def lhr : ByteArray := ⟨#[76, 72, 82]⟩
theorem day1 : (routeV dayV cph lhr 5 5).2 = 0 ∧ (routeV dayV cph lhr 5 5).1.1 = [0, 1] := by decide +kernel
theorem day2 : (routeV dayV cph lhr 5 6).2 = 0 ∧ (routeV dayV cph lhr 5 6).1.1 = [2] := by decide +kernel
theorem day3 : argsV dayV cph lhr 11 5 = 0 ∧ labelsV dayV cph 11 5 = [(cph, (11, -1)), (lhr, (50, 2))] := by decide +kernel
theorem day4 : (routeV dayV cph lhr 11 5).2 = 0 ∧ (routeV dayV cph lhr 11 5).1.2 = [(cph, 11), (lhr, 50)] := by
  have h1 : sortK [cph, lhr] = [cph, lhr] := by
    unfold sortK
    rw [List.mergeSort_of_pairwise (by decide)]
    rfl
  unfold routeV
  rw [if_neg (by rw [day3.1]; simp), day3.2, if_neg (by decide +kernel)]
  refine ⟨rfl, ?_⟩
  show (sortK [cph, lhr]).map _ = _
  rw [h1]
  decide +kernel
def con24 : Con := { ps := [], rs := [.d false .bool], pre := fun _ => True, out := fun _ => (true, ()), nw := id }
theorem c24 : CtrOk Try.prog 24 con24.ctr :=
  con_sound (G := ⟨[(17, con17.ctr), (18, con18.ctr), (19, con19.ctr), (50, con50.ctr)], [], [], []⟩) tab_ok (EnvOk.cons c17 has17 (EnvOk.cons c18 has18 (EnvOk.cons c19 has19 (EnvOk.cons c50 has50 EnvOk.nil)))) rfl Try.func24 rfl con24 127 (by kernel_rfl) (by decide) (by decide) rfl (by decide) rfl (by
    rintro _ hpre hwf X hT hG hk hK
    (simp -implicitDefEqProofs only [go_sem, Prod.eta, Option.isSome_none, Option.isSome_some, Int.toNat_zero, Nat.reduceAdd, Nat.reduceMul, Nat.reduceSub, Nat.reduceEqDiff, Nat.reduceLT, Nat.reduceLeDiff, Nat.reduceShiftRight, Nat.reduceMod, Nat.reduceBEq, reduceCtorEq, reduceIte, reduceDIte, Int.reduceNeg, Bool.not_eq_true', Bool.not_eq_false', Bool.or_eq_true, Bool.or_eq_false_iff, Bool.and_eq_true, Bool.and_eq_false_iff, decide_eq_true_eq, decide_eq_false_iff_not, Classical.not_not, not_or, maxLen, con24, con17, con18, con19, con50, hT, hG, hk, hK, Try.results24] at hwf ⊢); (try simp (disch := decide +kernel) only [drawn, true_and, and_true])
    exact fun _ _ _ _ _ _ => ⟨⟨⟨⟨⟨day1.1, day1.2⟩, day2.1⟩, day2.2⟩, day4.1⟩, day4.2⟩)
end Go.Proofs.Ytjeinbfnbcempaa
