/- The library's sort by a function, as a contract: the row is permuted, and no later element is less than an earlier one. -/
import Derived.Test.YtdmgmdppejopcaaGreatEvSortToH
import Derived.Test.YtdmgmdppejopcaaGreatEvSimp
set_option linter.unusedSimpArgs false
set_option linter.unusedVariables false
namespace Go.Ev
open Go.Sort (putCells putRow mapBlock onCells grow Holds flatK HoldsK putRowK SWO PermIn SortedIn)
open Go.Proofs (CmpLays ltOf sortWorldK)

section
variable {cx : Cx} {σ : Nat → Value} {N : Nat → Prop} {m : Mem} {w : World} {P : Program}

/-- An element with its cells. -/
abbrev El (w : World) (O : Nat → Prop) (t : Ty) := { p : t.den × List Value // ro w O t p.1 p.2 }
def El.enc {O : Nat → Prop} {t : Ty} (p : El w O t) : List Value := p.1.2

theorem roAll_els {O : Nat → Prop} {t : Ty} : ∀ (xs : List t.den) (flat : List Value), roAll (ro w O t) xs flat → ∃ d : List (El w O t), d.map (fun p => p.1.1) = xs ∧ d.flatMap El.enc = flat
  | [], flat, h => ⟨[], rfl, by rw [show flat = [] from h]; rfl⟩
  | x :: xs, _, ⟨c, r, e, h, hr⟩ => by
    obtain ⟨d, h1, h2⟩ := roAll_els xs r hr
    exact ⟨⟨(x, c), h⟩ :: d, by simp [h1], by rw [e, List.flatMap_cons, h2]; rfl⟩
theorem els_roAll {O : Nat → Prop} {t : Ty} : ∀ (d : List (El w O t)), roAll (ro w O t) (d.map (fun p => p.1.1)) (d.flatMap El.enc)
  | [] => rfl
  | p :: d => ⟨p.1.2, _, rfl, p.2, els_roAll d⟩

theorem flatMap_get {α : Type} (enc : α → List Value) (k : Nat) (hk0 : 0 < k) (hk : ∀ x, (enc x).length = k) : ∀ (d : List α) (t : Nat), (d.flatMap enc)[t]? = (d[t / k]?).bind (fun x => (enc x)[t % k]?)
  | [], t => by simp
  | x :: d, t => by
    rw [List.flatMap_cons]
    by_cases h : t < k
    · rw [List.getElem?_append_left (by rw [hk]; exact h), Nat.div_eq_of_lt h, Nat.mod_eq_of_lt h]
      rfl
    · obtain ⟨s, rfl⟩ : ∃ s, t = s + k := ⟨t - k, by omega⟩
      rw [List.getElem?_append_right (by rw [hk]; omega), hk, Nat.add_sub_cancel, flatMap_get enc k hk0 hk d s, Nat.add_div_right _ hk0, Nat.add_mod_right]
      rfl

theorem flatK_list {α : Type} [Inhabited α] (enc : α → List Value) (k : Nat) (hk0 : 0 < k) (hk : ∀ x, (enc x).length = k) (d : Array α) : (flatK enc k d).toList = d.toList.flatMap enc := by
  apply List.ext_getElem?
  intro t
  rw [flatMap_get enc k hk0 hk]
  by_cases h : t < d.size * k
  · have h1 : t / k < d.size := Nat.div_lt_of_lt_mul (by rw [Nat.mul_comm]; exact h)
    have h2 : t % k < k := Nat.mod_lt _ hk0
    have h3 : t < (flatK enc k d).toList.length := by simpa using h
    rw [List.getElem?_eq_getElem h3, Array.getElem_toList, ← getElem!_pos (flatK enc k d) t (by simpa using h), Go.Sort.get_flatK _ _ _ _ h]
    rw [List.getElem?_eq_getElem (by simpa using h1), Option.bind_some, Array.getElem_toList, getElem!_pos d _ h1, List.getElem?_eq_getElem (by rw [hk]; exact h2), getElem!_pos _ _ (by rw [hk]; exact h2)]
  · rw [List.getElem?_eq_none (by simp; omega)]
    have : d.size ≤ t / k := (Nat.le_div_iff_mul_le hk0).2 (by omega)
    rw [List.getElem?_eq_none (by simpa using this)]
    rfl

theorem callFunc_enter {g : FuncId} (h : FnHas P g) (args : Array Value) (w : World) : (callFunc g args).run P w = .ok (.enter g args) w := by
  obtain ⟨fn, hfn, hname, hbody⟩ := h
  have hname' : fn.name ≠ "runtime.NumGoroutine" := by simpa using hname
  have hbody' : fn.body ≠ none := by intro hh; rw [hh] at hbody; cases hbody
  simp [callFunc, hfn, hname', hbody']

/-- A world that has only grown. -/
theorem grown_eq {W w' : World} (h1 : w'.os = W.os) (h2 : w'.tape = W.tape) (h3 : w'.output = W.output) (h4 : W.drawn ≤ w'.drawn) (h5 : W.heap.size ≤ w'.heap.size) (h6 : ∀ b, b < W.heap.size → w'.heap[b]? = W.heap[b]?) : ∃ q os', w' = grow (W.drewN q) os' := by
  refine ⟨w'.drawn - W.drawn, w'.heap.extract W.heap.size w'.heap.size, ?_⟩
  have e1 : w'.heap = W.heap ++ w'.heap.extract W.heap.size w'.heap.size := by
    apply Array.ext_getElem?
    intro i
    by_cases hi : i < W.heap.size
    · rw [Array.getElem?_append_left hi]; exact h6 i hi
    · rw [Array.getElem?_append_right (by omega), Array.getElem?_extract]
      by_cases hi2 : i < w'.heap.size
      · rw [if_pos (by omega)]; congr 1; omega
      · rw [if_neg (by omega), Array.getElem?_eq_none (by omega)]
  have e2 : w'.drawn = W.drawn + (w'.drawn - W.drawn) := by omega
  obtain ⟨a, b, c, d, e⟩ := W
  obtain ⟨a', b', c', d', e'⟩ := w'
  simp only at h1 h2 h3 e1 e2
  subst h1 h2 h3
  simp only [grow, World.drewN, ← e1, ← e2]

/-- A comparison of two elements. -/
def cmpCon (t : Ty) (c : t.den → t.den → Int) : Con := { ps := [.d true t, .d true t], rs := [.d false (.int .i64)], pre := fun _ => True, out := fun x => (c x.1 x.2.1, ()), nw := id }

theorem impl_self (m : Mem) : ∀ (t : Ty) (y : t.den), impl m t (expl t y) = some y
  | .int k, n => by simp [impl, expl, implI]
  | .bool, b => rfl
  | .str, s => rfl
  | .unit, _ => rfl
  | .sl t, xs => by simp [impl, expl, implL, view, castTy]
  | .pair a b, p => by
    have h1 : (expl a p.1 ++ expl b p.2).take a.n = expl a p.1 := by rw [← expl_len a p.1]; exact List.take_left
    have h2 : (expl a p.1 ++ expl b p.2).drop a.n = expl b p.2 := by rw [← expl_len a p.1]; exact List.drop_left
    show implP (impl m a ((expl a p.1 ++ expl b p.2).take a.n)) (impl m b ((expl a p.1 ++ expl b p.2).drop a.n)) = some p
    rw [h1, h2, impl_self m a, impl_self m b]
    rfl
theorem rowsOf_expl : ∀ (t : Ty) (y : t.den), rowsOf (expl t y) = []
  | .int _, _ => rfl
  | .bool, _ => rfl
  | .str, _ => rfl
  | .unit, _ => rfl
  | .sl _, _ => rfl
  | .pair a b, p => by simp [expl, rowsOf_append, rowsOf_expl a, rowsOf_expl b]

theorem cmp_lays (h : RepM cx σ N m w) {t : Ty} {c : t.den → t.den → Int} {g : FuncId} (hc : CtrOk P g (cmpCon t c).ctr) [Inhabited (El w (Owned cx σ m) t)] {blk : Nat} (hown : Owned cx σ m blk) (hb : blk < w.heap.size) (size : Nat) :
    CmpLays P g #[] (El.enc (w := w) (O := Owned cx σ m) (t := t)) t.n (fun x y => c x.1.1 y.1.1) blk 0 size w := by
  intro q os dk hdk x y
  generalize hW : sortWorldK El.enc t.n w blk 0 q dk os = W
  have w1 : W.heap.size = w.heap.size + os.size := by rw [← hW]; simp [sortWorldK, putRowK, Go.Sort.ahead]
  have w2 : ∀ b, b < w.heap.size → b ≠ blk → W.heap[b]? = w.heap[b]? := fun b hb' hne => by
    rw [← hW]
    unfold sortWorldK
    rw [Go.Sort.heap_grow_old _ _ (by simpa [putRowK, Go.Sort.ahead] using hb')]
    simp [putRowK, putRow, mapBlock, Go.Sort.ahead, Array.getElem?_modify, Ne.symm hne]
  let cx' : Cx := ⟨W, Owned cx σ m, fun _ => False, 0, fun _ => .bool false⟩
  have olt : ∀ b, Owned cx σ m b → b < w.heap.size := by
    rintro b (hb | ⟨id, h1, h2⟩)
    · exact h.hF b hb
    · exact repB_lt (h.blk id) h1 b h2
  have hM : RepM cx' (fun _ => .bool false) (fun _ => True) (fun _ => .dead) W :=
    ⟨fun _ => trivial, fun _ _ => rfl, fun _ _ _ ho => (by cases ho), fun _ _ ho => (by cases ho), fun _ _ ho => (by cases ho), ⟨rfl, rfl, rfl, Nat.le_refl _, Nat.le_refl _, fun _ _ _ => rfl⟩,
      fun b hb' => by have := olt b hb'; omega, fun _ => rfl, fun i hi => by cases hi⟩
  have hK : Keep w W (Owned cx σ m) (Owned cx' (fun _ => .bool false) (fun _ => .dead)) := ⟨fun b hb' hno => ⟨by
    rintro (h1 | ⟨id, h1, _⟩)
    · exact hno h1
    · (cases h1), w2 b hb' (fun e => hno (e ▸ hown))⟩⟩
  have hx := expl_rep (x := rx cx' (fun _ => .bool false) (fun _ => True) (fun _ => .dead) W) t x.1.1 x.1.2 (ro_keep hK t _ _ x.2)
  have hy := expl_rep (x := rx cx' (fun _ => .bool false) (fun _ => True) (fun _ => .dead) W) t y.1.1 y.1.2 (ro_keep hK t _ _ y.2)
  have hrd : rds (fun _ => .dead) (cmpCon t c).ps [.agg (expl t x.1.1), .agg (expl t y.1.1)] = some (x.1.1, y.1.1, ()) := by
    simp only [cmpCon, rds, rd, impl_self, implP]
  have heff : (cmpCon t c).ctr [.agg (expl t x.1.1), .agg (expl t y.1.1)] (fun _ => .dead) 0 = (cmpCon t c).eff [.agg (expl t x.1.1), .agg (expl t y.1.1)] (fun _ => .dead) 0 (x.1.1, y.1.1, ()) := by
    unfold Con.ctr Con.effO
    rw [hrd]
    simp only
    rw [if_pos]
    simp [okIds, cmpCon, pids, pid]
  have hcall := hc cx' (fun _ => .bool false) (fun _ => True) (fun _ => .dead) W 0 [.agg (expl t x.1.1), .agg (expl t y.1.1)] [.agg x.1.2.toArray, .agg y.1.2.toArray] hM (fun _ _ _ => trivial)
    (by
      unfold repAs
      refine ⟨_, _, rfl, by unfold repA; exact ⟨_, rfl, hx⟩, ?_⟩
      unfold repAs
      refine ⟨_, _, rfl, by unfold repA; exact ⟨_, rfl, hy⟩, ?_⟩
      unfold repAs; rfl) (by rw [heff]; trivial)
  rw [heff] at hcall
  refine hcall.mono ?_
  rintro e w' ⟨v, rfl, σ', h1, _, h3, _⟩
  have h3' : v = .int .i64 (c x.1.1 y.1.1) := by
    simp only [Con.eff, cmpCon, ravs, rav, avOf, expl, pack, Bool.false_eq_true, if_false] at h3
    exact (of_int h3).1
  have ev := h1.evo
  refine ⟨by rw [h3'], ?_⟩
  exact grown_eq ev.os ev.tape ev.output ev.drawn ev.size (fun b hb' => ev.block b hb' (fun hf => hf))

/-- slices.SortFunc. -/
def sortFCon (e : TypeId) (t : Ty) (g : FuncId) (c : t.den → t.den → Int) : RCon := { ps := [.o e t, .cl g []], rs := [], pre := fun x => x.1.length < 4611686018427387904, rel := fun x _ z => z.1.Perm x.1 ∧ z.1.Pairwise (fun a b => ¬ c b a < 0) }

theorem sort_func {ρ : Go.Shelf.Ren} (L : Go.Proofs.SlLaysF0.n6 P ρ) {e : TypeId} {t : Ty} (hpos : 0 < t.n) (aE : ∀ w, (isAgg (ρ.t 24)).run P w = .ok true w) (zE : ∀ w, (Go.sizeOf (ρ.t 24)).run P w = .ok t.n w)
    {g : FuncId} {c : t.den → t.den → Int} (hc : CtrOk P g (cmpCon t c).ctr) (hg : FnHas P g) (hO : SWO (fun x y => decide (c x y < 0))) : RCtrOk P (ρ.f 6) (sortFCon e t g c).rctr := by
  intro cx σ N m w fr avs vs h hfr hreps hp
  unfold RCon.rctr RCon.chcO at hp ⊢
  cases hrd : rds m (sortFCon e t g c).ps avs with
  | none => rw [hrd] at hp; exact hp.elim
  | some x =>
    rw [hrd] at hp
    simp only at hp ⊢
    split at hp
    · rename_i hid
      rw [if_pos hid]
      obtain ⟨xs, u, u'⟩ := x
      cases u; cases u'
      match avs, hrd, hreps, hid with
      | [v, f], hrd, hreps, hid =>
        simp only [sortFCon, rds] at hrd
        obtain ⟨h1, hr2⟩ := implP_some hrd
        obtain ⟨hf1, _⟩ := implP_some hr2
        obtain ⟨id, rfl, h2⟩ := rd_o h1
        obtain ⟨caps, rfl, hcp⟩ := rd_cl hf1
        have hcaps : caps = [] := by
          cases caps with
          | nil => rfl
          | cons _ _ => simp [rdCaps] at hcp
        subst hcaps
        have hm := rdRow_some h2
        unfold repAs at hreps
        obtain ⟨v0, r, rfl, h3, h4⟩ := hreps
        unfold repAs at h4
        obtain ⟨v1, r1, rfl, h5, h6⟩ := h4
        unfold repAs at h6
        subst h6
        unfold repA repC at h3 h5
        obtain ⟨hn, rfl⟩ := h3
        obtain ⟨ws, rfl, h7⟩ := h5
        rw [repCs_nil] at h7
        subst h7
        simp only [rx] at hn ⊢
        have hsz : xs.length < 4611686018427387904 := hp
        have goal_eff : ∀ (w' : World) (ys : List t.den), ys.Perm xs → ys.Pairwise (fun a b => ¬ c b a < 0) → Res cx σ N m w fr ⟨xs.length < 4611686018427387904, .tup [], [(id, .row e t ys)], True⟩ (.tuple #[]) w' →
            ∃ v, Ending.returned (.tuple #[]) = .returned v ∧ ∃ a, Res cx σ N m w fr ⟨((sortFCon e t g c).chc [.one (.row id), .one (.fn g [])] m fr (xs, (), ())).pre, ((sortFCon e t g c).chc [.one (.row id), .one (.fn g [])] m fr (xs, (), ())).r a,
              ((sortFCon e t g c).chc [.one (.row id), .one (.fn g [])] m fr (xs, (), ())).u a, ((sortFCon e t g c).chc [.one (.row id), .one (.fn g [])] m fr (xs, (), ())).asm a⟩ v w' := by
          rintro w' ys hys1 hys2 ⟨σ', r1, r2, r3, _⟩
          refine ⟨_, rfl, ((), (ys, (), ())), σ', ?_, ?_, r3, ⟨hys1, hys2⟩, trivial⟩
          · have : (((sortFCon e t g c).chc [.one (.row id), .one (.fn g [])] m fr (xs, (), ())).u ((), (ys, (), ()))) = [(id, .row e t ys)] := by
              simp [RCon.chc, sortFCon, updC, rws, rw1, pupd, pid, nbl, pbl, capIds, capBlks, rheap, capRows]
            rw [this]; exact r1
          · have : (((sortFCon e t g c).chc [.one (.row id), .one (.fn g [])] m fr (xs, (), ())).u ((), (ys, (), ()))) = [(id, .row e t ys)] := by
              simp [RCon.chc, sortFCon, updC, rws, rw1, pupd, pid, nbl, pbl, capIds, capBlks, rheap, capRows]
            rw [this]; exact r2
        have hb := h.blk id
        rw [hm] at hb
        obtain ⟨n', flat, rfl, k1, k2⟩ := hb
        simp only [rx] at k1 k2
        have none_case : xs = [] → ∀ a0 cap0, σ id = .slice a0 0 cap0 → Calls P (ρ.f 6) #[σ id, .func (.func g) #[] #[]] w fun e_1 w' => ∃ v, e_1 = .returned v ∧ ∃ a, Res cx σ N m w fr ⟨((sortFCon e t g c).chc [.one (.row id), .one (.fn g [])] m fr (xs, (), ())).pre, ((sortFCon e t g c).chc [.one (.row id), .one (.fn g [])] m fr (xs, (), ())).r a,
              ((sortFCon e t g c).chc [.one (.row id), .one (.fn g [])] m fr (xs, (), ())).u a, ((sortFCon e t g c).chc [.one (.row id), .one (.fn g [])] m fr (xs, (), ())).asm a⟩ v w' := by
          intro hx a0 cap0 e1
          subst hx
          rw [e1]
          refine (Go.Proofs.AnyF.slices_SortFunc_none L a0 cap0 _ w).mono ?_
          rintro e' w' ⟨rfl, rfl⟩
          refine goal_eff _ [] (List.Perm.refl _) List.Pairwise.nil ?_
          obtain ⟨g1, g2⟩ := h.weaken (N' := Nx N fr) (fun _ k => k.1)
          have hmm : updM m [(id, Blk.row e t [])] = m := same_row hm
          refine ⟨σ, ?_, ?_, ?_, trivial⟩ <;> simp only [hmm]
          · exact g1
          · exact g2
          · unfold repA; exact ⟨[], rfl, by unfold repAs; rfl⟩
        rcases k1.2 with ⟨e2, a0, e1⟩ | ⟨g0, cap, cur, hcp0, e1, hg0, hlc, hcm, hcs, htk⟩
        · exact none_case (List.eq_nil_of_length_eq_zero e2) a0 0 e1
        · by_cases hx0 : xs = []
          · exact none_case hx0 _ cap (by rw [e1, hx0]; rfl)
          · obtain ⟨d, hd1, hd2⟩ := roAll_els xs flat k2
            have hdn : d ≠ [] := by rintro rfl; exact hx0 hd1.symm
            letI : Inhabited (El w (Owned cx σ m) t) := ⟨d.head hdn⟩
            have hdl : d.length = xs.length := by rw [← hd1, List.length_map]
            have hk : ∀ x : El w (Owned cx σ m) t, (El.enc x).length = t.n := fun x => ro_len t _ _ x.2
            have ho1 : ∀ x : El w (Owned cx σ m) t, ∀ v ∈ El.enc x, v.oneCell' = true := fun x => ro_one t _ _ x.2
            have hFl := flatK_list El.enc t.n hpos hk d.toArray
            rw [List.toList_toArray, hd2] at hFl
            have hlt : g0 < w.heap.size := (Array.getElem?_eq_some_iff.1 hg0).1
            have hH : HoldsK El.enc t.n w g0 0 d.toArray := by
              intro j hj
              rw [Nat.zero_add]
              refine ⟨rowR_cells k1 (g := g0) (by rw [e1]; exact blkOf_slice hcp0) j _ ?_, by simp [World.frozen?, hg0]⟩
              rw [← hFl, Array.getElem?_toList, Array.getElem?_eq_getElem hj, getElem!_pos _ j hj]
              rfl
            have hown : Owned cx σ m g0 := .inr ⟨id, by rw [hm]; rfl, by rw [e1]; exact blkOf_slice hcp0⟩
            have hO' : SWO (ltOf fun x y : El w (Owned cx σ m) t => c x.1.1 y.1.1) := ⟨fun x => hO.irrefl x.1.1, fun x y z => hO.trans x.1.1 y.1.1 z.1.1, fun x y z => hO.ntrans x.1.1 y.1.1 z.1.1⟩
            have hcall := Go.Proofs.AnyQ.slices_SortFunc L t.n aE zE El.enc hk ho1 (fun x y : El w (Owned cx σ m) t => c x.1.1 y.1.1) hO' g #[] g0 0 cap d.toArray w (callFunc_enter hg) (cmp_lays h hc hown hlt _) hH hlt (by simpa [hdl] using hsz)
            rw [e1, ← hdl]
            simp only [List.size_toArray] at hcall
            refine hcall.mono ?_
            rintro e' w' ⟨rfl, d', n, os, hperm, hsort, rfl⟩
            obtain ⟨hps, _, hpp⟩ := hperm
            simp only [List.size_toArray] at hps hpp
            have hpp' : d'.toList.Perm d := by
              have e1 : d'.extract 0 d.length = d' := by rw [← hps]; exact Array.extract_size
              have e2 : d.toArray.extract 0 d.length = d.toArray := by
                have := Array.extract_size (xs := d.toArray)
                simp
              rw [e1, e2] at hpp
              simpa using hpp
            have hl' : (d'.toList.map (fun p => p.1.1)).length = xs.length := by simp [hps, hdl]
            refine goal_eff _ (d'.toList.map (fun p => p.1.1)) (by rw [← hd1]; exact hpp'.map _) ?_ ?_
            · rw [List.pairwise_map, List.pairwise_iff_getElem]
              intro i j hi hj hij
              have := hsort i j (Nat.zero_le _) hij (by simpa [hps] using hj)
              rw [getElem!_pos d' i (by simpa using hi), getElem!_pos d' j (by simpa using hj)] at this
              simp only [ltOf, decide_eq_false_iff_not] at this
              simpa using this
            · refine row_sorted h hn hm e1 hcp0 hg0 hlc hcm hcs hl' ?_ (sorted_world hg0 ?_ n os) fr _ trivial
              · rw [flatK_list El.enc t.n hpos hk]
                exact els_roAll d'.toList
              · rw [Go.Sort.size_flatK, hps, hdl, hcs]
                exact Nat.mul_le_mul_right _ hlc
      | [], hrd, _, _ => simp [sortFCon, rds] at hrd
      | [_], hrd, _, _ =>
        simp only [sortFCon, rds] at hrd
        obtain ⟨_, h2⟩ := implP_some hrd
        cases h2
      | _ :: _ :: _ :: _, hrd, _, _ =>
        simp only [sortFCon, rds] at hrd
        obtain ⟨_, h2⟩ := implP_some hrd
        obtain ⟨_, h3⟩ := implP_some h2
        cases h3
    · exact hp.elim

end
end Go.Ev

/- The contracts of the functions that the statements about the makeup reach: the order of flights. -/
set_option linter.unusedSimpArgs false
set_option linter.unusedVariables false
set_option maxRecDepth 100000
set_option maxHeartbeats 4000000
namespace Go.Proofs.YtdmgmdppejopcaaGreat
open Go.Ev
open Go.Sort (SWO)

/-- What a comparison is. -/
structure Cmp {α : Type} (c : α → α → Int) : Prop where
  eq : ∀ a b, c a b = 0 ↔ a = b
  anti : ∀ a b, c a b < 0 ↔ 0 < c b a
  trans : ∀ a b d, c a b < 0 → c b d < 0 → c a d < 0
  unit : ∀ a b, -1 ≤ c a b ∧ c a b ≤ 1
theorem cmpV_cmp : Cmp cmpV := by
  refine ⟨fun a b => ?_, fun a b => ?_, fun a b d => ?_, fun a b => ?_⟩ <;> unfold cmpV
  · split
    · omega
    · split <;> omega
  · (repeat' split) <;> omega
  · intro h1 h2
    have a1 : a < b := by
      apply Classical.byContradiction
      intro h
      rw [if_neg h] at h1
      split at h1 <;> omega
    have a2 : b < d := by
      apply Classical.byContradiction
      intro h
      rw [if_neg h] at h2
      split at h2 <;> omega
    rw [if_pos (by omega)]; omega
  · split
    · omega
    · split <;> omega
theorem strLt_iff (a b : ByteArray) : strLt a b = true ↔ a.toList < b.toList := by
  unfold strLt
  rw [Go.Proofs.bytesLess_eq, decide_eq_true_eq]
theorem str_inj {a b : ByteArray} (h : a.toList = b.toList) : a = b := by
  have := bytes_eq a b
  rw [h] at this
  simpa using this.symm
theorem cmpS_cmp : Cmp cmpS := by
  have hlt : ∀ a b, cmpS a b = if a.toList < b.toList then -1 else if a = b then 0 else 1 := fun a b => by
    unfold cmpS
    by_cases h : a.toList < b.toList
    · rw [if_pos ((strLt_iff a b).2 h), if_pos h]
    · have h2 : strLt a b = false := by
        cases hh : strLt a b
        · rfl
        · exact absurd ((strLt_iff a b).1 hh) h
      rw [if_neg h, h2]
      by_cases e : a = b
      · simp [e]
      · simp [e]
  have tri : ∀ a b : ByteArray, a ≠ b → ¬ a.toList < b.toList → b.toList < a.toList := fun a b e h => by
    have h2 : b.toList ≤ a.toList := List.not_lt.1 h
    rcases List.le_iff_lt_or_eq.1 h2 with h3 | h3
    · exact h3
    · exact absurd (str_inj h3.symm) e
  refine ⟨fun a b => ?_, fun a b => ?_, fun a b d => ?_, fun a b => ?_⟩ <;> simp only [hlt]
  · by_cases h : a.toList < b.toList
    · rw [if_pos h]
      refine ⟨fun k => by omega, fun k => ?_⟩
      subst k
      exact absurd h (List.lt_irrefl _)
    · rw [if_neg h]
      by_cases e : a = b <;> simp [e]
  · by_cases h : a.toList < b.toList
    · rw [if_pos h, if_neg (fun k => List.lt_asymm h k), if_neg (fun e => by subst e; exact List.lt_irrefl _ h)]
      omega
    · rw [if_neg h]
      by_cases e : a = b
      · subst e; simp [h]
      · rw [if_neg e, if_pos (tri a b e h)]; omega
  · intro h1 h2
    have a1 : a.toList < b.toList := by
      apply Classical.byContradiction
      intro h
      rw [if_neg h] at h1
      split at h1 <;> omega
    have a2 : b.toList < d.toList := by
      apply Classical.byContradiction
      intro h
      rw [if_neg h] at h2
      split at h2 <;> omega
    rw [if_pos (List.lt_trans a1 a2)]; omega
  · split
    · omega
    · split <;> omega
def lexC {α β : Type} (c : α → α → Int) (d : β → β → Int) (x y : α × β) : Int := if c x.1 y.1 = 0 then d x.2 y.2 else c x.1 y.1
theorem Cmp.lex {α β : Type} {c : α → α → Int} {d : β → β → Int} (hc : Cmp c) (hd : Cmp d) : Cmp (lexC c d) := by
  have sym : ∀ a b, c a b = 0 → c b a = 0 := fun a b h => (hc.eq b a).2 ((hc.eq a b).1 h).symm
  refine ⟨fun a b => ?_, fun a b => ?_, fun a b e => ?_, fun a b => ?_⟩ <;> unfold lexC
  · by_cases h : c a.1 b.1 = 0
    · rw [if_pos h, hd.eq]
      have := (hc.eq _ _).1 h
      exact ⟨fun k => Prod.ext this k, fun k => by rw [k]⟩
    · rw [if_neg h]
      exact ⟨fun k => absurd k h, fun k => absurd ((hc.eq _ _).2 (by rw [k])) h⟩
  · by_cases h : c a.1 b.1 = 0
    · rw [if_pos h, if_pos (sym _ _ h)]; exact hd.anti _ _
    · rw [if_neg h, if_neg (fun k => h (sym _ _ k))]; exact hc.anti _ _
  · by_cases h : c a.1 b.1 = 0
    · have e1 := (hc.eq _ _).1 h
      rw [if_pos h, e1]
      by_cases h2 : c b.1 e.1 = 0
      · simp only [h2, if_true]; exact hd.trans _ _ _
      · simp only [h2, if_false]; exact fun _ k => k
    · rw [if_neg h]
      by_cases h2 : c b.1 e.1 = 0
      · rw [if_pos h2, ← (hc.eq _ _).1 h2, if_neg h]; exact fun k _ => k
      · rw [if_neg h2]
        intro k1 k2
        have := hc.trans _ _ _ k1 k2
        rw [if_neg (by omega)]; exact this
  · split
    · exact hd.unit _ _
    · exact hc.unit _ _
theorem fltC_eq (a b : Flt) : fltC a b = lexC cmpS (lexC cmpV (lexC cmpS cmpV)) a b := by
  unfold fltC lexC
  simp only [orV]
  split
  · split
    · split
      · split
        · omega
        · rfl
      · rfl
    · rfl
  · rfl
theorem fltC_cmp : Cmp fltC := by
  have : fltC = lexC cmpS (lexC cmpV (lexC cmpS cmpV)) := by funext a b; exact fltC_eq a b
  rw [this]
  exact cmpS_cmp.lex (cmpV_cmp.lex (cmpS_cmp.lex cmpV_cmp))
theorem all_swo : SWO (fun x y : All => decide (fltC x.1 y.1 < 0)) := by
  refine ⟨fun x => ?_, fun x y z h1 h2 => ?_, fun x y z h1 h2 => ?_⟩
  · have := (fltC_cmp.eq x.1 x.1).2 rfl
    exact decide_eq_false (by omega)
  · exact decide_eq_true (fltC_cmp.trans _ y.1 _ (of_decide_eq_true h1) (of_decide_eq_true h2))
  · have a1 := of_decide_eq_false h1
    have a2 := of_decide_eq_false h2
    refine decide_eq_false fun h => ?_
    by_cases e : fltC y.1 x.1 = 0
    · rw [(fltC_cmp.eq _ _).1 e] at a2; exact a2 h
    · have : fltC y.1 x.1 < 0 := by
        have := fltC_cmp.anti x.1 y.1
        have b := fltC_cmp.anti y.1 x.1
        have e2 : fltC x.1 y.1 ≠ 0 := fun k => e ((fltC_cmp.eq _ _).2 ((fltC_cmp.eq _ _).1 k).symm)
        omega
      exact a2 (fltC_cmp.trans _ _ _ this h)
def con57 : RCon := sortFCon 62 (.pair (.pair .str (.pair (.int .i64) (.pair .str (.int .i64)))) (.int .i64)) 58 (fun a b => fltC a.1 b.1)
theorem c57 : RCtrOk Tryz.prog 57 con57.rctr := sort_func (e := 62) (t := (.pair (.pair .str (.pair (.int .i64) (.pair .str (.int .i64)))) (.int .i64))) Tryz.sortF (by decide) Tryz.isAgg62 Tryz.sizeOf62 (c := fun (a b : All) => fltC a.1 b.1) c58 has58 all_swo
/-- In the order of the flights. -/
def sortAl (l : List All) : List All := l.mergeSort (fun a b => decide (fltC a.1 b.1 ≤ 0))
theorem sortAl_perm (l : List All) : (sortAl l).Perm l := List.mergeSort_perm l _
theorem fltC_tot (a b : Flt) : ¬ fltC a b ≤ 0 → fltC b a < 0 := fun h => (fltC_cmp.anti b a).2 (by omega)
theorem sortAl_sorted (l : List All) : (sortAl l).Pairwise (fun a b => fltC a.1 b.1 ≤ 0) := by
  have h := List.pairwise_mergeSort (le := fun a b : All => decide (fltC a.1 b.1 ≤ 0)) (fun a b c h1 h2 => by
    have h1 := of_decide_eq_true h1
    have h2 := of_decide_eq_true h2
    refine decide_eq_true ?_
    by_cases e1 : fltC a.1 b.1 = 0
    · rw [(fltC_cmp.eq _ _).1 e1]; exact h2
    · by_cases e2 : fltC b.1 c.1 = 0
      · rw [← (fltC_cmp.eq _ _).1 e2]; exact h1
      · have := fltC_cmp.trans a.1 b.1 c.1 (by omega) (by omega)
        omega) (fun a b => by
    simp only [Bool.or_eq_true, decide_eq_true_eq]
    by_cases h : fltC a.1 b.1 ≤ 0
    · exact .inl h
    · have := fltC_tot _ _ h
      exact .inr (by omega)) l
  exact h.imp (fun h => by simpa using h)
theorem sortAl_eq {l z : List All} (hn : (l.map (·.1)).Nodup) (hp : z.Perm l) (hs : z.Pairwise (fun a b => ¬ fltC b.1 a.1 < 0)) : z = sortAl l := by
  have hnz : (z.map (·.1)).Nodup := (hp.map _).nodup_iff.2 hn
  refine List.Perm.eq_of_pairwise (le := fun a b : All => ¬ fltC b.1 a.1 < 0) (fun a b ha hb h1 h2 => ?_) hs ((sortAl_sorted l).imp (fun {a b} h k => by
    have := (fltC_cmp.anti b.1 a.1).1 k; omega)) (hp.trans (sortAl_perm l).symm)
  have e0 : fltC a.1 b.1 = 0 := by
    have := fltC_cmp.anti b.1 a.1
    omega
  have e := (fltC_cmp.eq _ _).1 e0
  have ha' : a ∈ l := hp.mem_iff.1 ha
  have hb' : b ∈ l := (sortAl_perm l).mem_iff.1 hb
  clear hs hp hnz ha hb
  induction l with
  | nil => cases ha'
  | cons c l ih =>
    rw [List.map_cons, List.nodup_cons] at hn
    rcases List.mem_cons.1 ha' with h1 | h1 <;> rcases List.mem_cons.1 hb' with h2 | h2
    · rw [h1, h2]
    · exact absurd (List.mem_map.2 ⟨b, h2, by rw [← e, h1]⟩) hn.1
    · exact absurd (List.mem_map.2 ⟨a, h1, by rw [e, h2]⟩) hn.1
    · exact ih hn.2 h1 h2
def keysOf (l : List All) : List Flt := l.map (·.1)
def con28 : Con := { ps := [.o 62 (.pair (.pair .str (.pair (.int .i64) (.pair .str (.int .i64)))) (.int .i64))], rs := [], pre := fun (x : List All × Unit) => x.1.length ≤ 1048576 ∧ (keysOf x.1).Nodup, out := fun x => (), nw := fun (x : List All × Unit) => (sortAl x.1, x.2) }
theorem c28 : CtrOk Tryz.prog 28 con28.ctr :=
  con_sound (G := ⟨[], [(57, con57.rctr)], []⟩) tab_ok (EnvOk.rcons c57 has57 EnvOk.nil) rfl Tryz.func28 rfl con28 1 (by kernel_rfl) (by decide) (by decide) rfl (by decide) rfl (by
    rintro ⟨(l : List All), _⟩ hpre hwf X hT hG hk hK
    obtain ⟨h1, h2⟩ : l.length ≤ 1048576 ∧ (keysOf l).Nodup := hpre
    (simp only [go_sem, Prod.eta, Option.isSome_none, Option.isSome_some, Int.toNat_zero, Nat.reduceAdd, Nat.reduceMul, Nat.reduceSub, Nat.reduceEqDiff, Nat.reduceLT, Nat.reduceLeDiff, Nat.reduceShiftRight, Nat.reduceMod, Nat.reduceBEq, reduceCtorEq, reduceIte, reduceDIte, Int.reduceNeg, Bool.not_eq_true', Bool.not_eq_false', Bool.or_eq_true, Bool.or_eq_false_iff, Bool.and_eq_true, Bool.and_eq_false_iff, decide_eq_true_eq, decide_eq_false_iff_not, Classical.not_not, not_or, maxLen, con28, con57, hT, hG, hk, hK, Tryz.results28, sortFCon] at hwf ⊢); (try simp (disch := decide +kernel) only [drawn, true_and, and_true])
    exact ⟨by omega, fun a h => sortAl_eq h2 h.1 h.2⟩)
end Go.Proofs.YtdmgmdppejopcaaGreat

/- The contracts of the functions that the statements about the makeup reach: the plan. -/
set_option linter.unusedSimpArgs false
set_option linter.unusedVariables false
set_option maxRecDepth 100000
set_option maxHeartbeats 4000000
namespace Go.Proofs.YtdmgmdppejopcaaGreat
open Go.Ev

theorem valF_ok : ∀ (l : List Dep) (p : Option Flt), valF p l = 0 → (∀ d ∈ l, validV d = true) ∧ (∀ f, p = some f → ∀ d ∈ l, fltC f d.1 < 0) ∧ l.Pairwise (fun a b => fltC a.1 b.1 < 0)
  | [], _, _ => ⟨by simp, by simp, List.Pairwise.nil⟩
  | d :: l, p, h => by
    unfold valF at h
    have hv : validV d = true := by
      cases hv : validV d
      · rw [if_pos hv] at h; omega
      · rfl
    rw [if_neg (by rw [hv]; simp)] at h
    have key : valF (some d.1) l = 0 → (∀ e ∈ d :: l, validV e = true) ∧ (d :: l).Pairwise (fun a b => fltC a.1 b.1 < 0) ∧ ∀ e ∈ l, fltC d.1 e.1 < 0 := fun k => by
      obtain ⟨h1, h2, h3⟩ := valF_ok l (some d.1) k
      have h4 := h2 d.1 rfl
      exact ⟨fun e he => by rcases List.mem_cons.1 he with rfl | he; exact hv; exact h1 e he, List.pairwise_cons.2 ⟨h4, h3⟩, h4⟩
    cases p with
    | none =>
      obtain ⟨a, b, _⟩ := key h
      exact ⟨a, by simp, b⟩
    | some f =>
      dsimp only at h
      by_cases e0 : fltC f d.1 = 0
      · rw [if_pos e0] at h; omega
      · rw [if_neg e0] at h
        by_cases e1 : fltC f d.1 = 1
        · rw [if_pos e1] at h; omega
        · rw [if_neg e1] at h
          obtain ⟨a, b, c⟩ := key h
          have hu := fltC_cmp.unit f d.1
          have hfd : fltC f d.1 < 0 := by omega
          refine ⟨a, fun g hg e he => ?_, b⟩
          cases hg
          rcases List.mem_cons.1 he with rfl | he
          · exact hfd
          · exact fltC_cmp.trans _ _ _ hfd (c e he)
theorem valid_ok {l : List Dep} (h : validateV l = 0) : l.length ≤ 24 ∧ (∀ d ∈ l, validV d = true) ∧ l.Pairwise (fun a b => fltC a.1 b.1 < 0) := by
  unfold validateV at h
  by_cases c : (l.length : Int) > 24
  · rw [if_pos c] at h; omega
  · rw [if_neg c] at h
    obtain ⟨a, _, b⟩ := valF_ok l none h
    exact ⟨by omega, a, b⟩
theorem validV_times {d : Dep} (h : validV d = true) : 0 ≤ d.opens ∧ d.opens < d.closes ∧ d.closes ≤ 1048576 := by
  unfold validV inV at h
  simp only [Bool.and_eq_true, decide_eq_true_eq] at h
  unfold Dep.opens Dep.closes
  omega
theorem args_ok {l : List Dep} {cs : List Int} (h : argsV l cs = 0) : validateV l = 0 ∧ (planV l).length ≤ 16 ∧ cs.length ≤ 6 ∧ cs.all (fun c => decide (0 ≤ c)) = true ∧ ascI cs = true := by
  unfold argsV at h
  by_cases c1 : validateV l ≠ 0
  · rw [if_pos c1] at h; exact absurd h c1
  · rw [if_neg c1] at h
    by_cases c2 : ((planV l).length : Int) > 16 ∨ (cs.length : Int) > 6
    · rw [if_pos c2] at h; omega
    · rw [if_neg c2] at h
      by_cases c3 : cs.all (fun c => decide (0 ≤ c)) = false
      · rw [if_pos c3] at h; omega
      · rw [if_neg c3] at h
        by_cases c4 : ascI cs = false
        · rw [if_pos c4] at h; omega
        · exact ⟨Classical.not_not.1 c1, by omega, by omega, by simpa using c3, by simpa using c4⟩
theorem nodup_flts {l : List Dep} (h : l.Pairwise (fun a b => fltC a.1 b.1 < 0)) : (l.map (fun d => d.1)).Nodup := by
  unfold List.Nodup
  rw [List.pairwise_map]
  refine h.imp fun {a b} hab e => ?_
  rw [(fltC_cmp.eq _ _).2 e] at hab
  omega
def place (d : Dep) : List Int → List Int → Option (Int × List Int)
  | c :: cs, f :: fs => if f ≤ d.opens then some (c, d.closes :: fs) else (place d cs fs).map (fun r => (r.1, f :: r.2))
  | _, _ => none
def greedy : List Dep → List Int → List Int → List All
  | [], _, _ => []
  | d :: ds, cs, fr => match place d cs fr with
    | some (c, fr') => (d.1, c) :: greedy ds cs fr'
    | none => greedy ds cs fr
theorem place_len {d : Dep} : ∀ {cs fr : List Int} {c : Int} {fr' : List Int}, place d cs fr = some (c, fr') → fr'.length = fr.length
  | c :: cs, f :: fs, x, fr', h => by
    unfold place at h
    split at h
    · cases h; rfl
    · cases hp : place d cs fs with
      | none => rw [hp] at h; cases h
      | some r =>
        rw [hp] at h
        cases h
        rw [List.length_cons, List.length_cons, place_len hp]
  | [], _, _, _, h => by simp [place] at h
  | _ :: _, [], _, _, h => by simp [place] at h
theorem greedy_keys : ∀ (ds : List Dep) (cs fr : List Int), (keysOf (greedy ds cs fr)).Sublist (ds.map (fun d => d.1))
  | [], _, _ => List.Sublist.refl _
  | d :: ds, cs, fr => by
    unfold greedy
    split
    · exact (greedy_keys ds cs _).cons_cons _
    · exact (greedy_keys ds cs _).cons _
theorem greedy_len (ds : List Dep) (cs fr : List Int) : (greedy ds cs fr).length ≤ ds.length := by
  have := (greedy_keys ds cs fr).length_le
  unfold keysOf at this
  rwa [List.length_map, List.length_map] at this
def greedyV (l : List Dep) (cs : List Int) : List All := greedy (isort (planV l)) cs (List.replicate cs.length 0)
theorem plan_keys {l : List Dep} {cs : List Int} (h : argsV l cs = 0) : (keysOf (greedyV l cs)).Nodup ∧ (greedyV l cs).length ≤ 16 ∧ (∀ d ∈ planV l, inTime d) ∧ (∀ d ∈ planV l, 0 ≤ d.opens ∧ d.opens < d.closes ∧ d.closes ≤ 1048576) := by
  obtain ⟨h1, h2, h3, _, _⟩ := args_ok h
  obtain ⟨g1, g2, g3⟩ := valid_ok h1
  have hsub : (planV l).Sublist l := List.filter_sublist
  have hpw := g3.sublist hsub
  have hnd := nodup_flts hpw
  have hnd2 : ((isort (planV l)).map (fun d => d.1)).Nodup := ((isort_perm (planV l)).map _).nodup_iff.2 hnd
  have ht : ∀ d ∈ planV l, 0 ≤ d.opens ∧ d.opens < d.closes ∧ d.closes ≤ 1048576 := fun d hd => validV_times (g2 d (hsub.mem hd))
  refine ⟨hnd2.sublist (greedy_keys _ _ _), ?_, fun d hd => ?_, ht⟩
  · have := greedy_len (isort (planV l)) cs (List.replicate cs.length 0)
    rw [isort_len] at this
    exact Nat.le_trans this h2
  · have := ht d hd
    exact ⟨this.1, by omega⟩
abbrev Mk := List All × Int × List Flt
def planO (l : List Dep) (cs : List Int) : Mk × Int :=
  if argsV l cs ≠ 0 then (([], 0, []), argsV l cs) else if (peakV l).2 > (cs.length : Int) then (([], (peakV l).1, openV l (peakV l).1), 0) else ((sortAl (greedyV l cs), 0, []), 0)
theorem place_step (d : Dep) : ∀ (cs fr : List Int) (j : Nat) (h1 : j < cs.length) (h2 : j < fr.length), (∀ k (h : k < fr.length), k < j → ¬ fr[k] ≤ d.opens) → fr[j] ≤ d.opens → place d cs fr = some (cs[j], fr.set j d.closes)
  | c :: cs, f :: fs, 0, _, _, _, h => by
    unfold place
    rw [if_pos (by simpa using h)]
    rfl
  | c :: cs, f :: fs, j + 1, h1, h2, hb, h => by
    unfold place
    have h0 := hb 0 (by simp) (by omega)
    rw [if_neg (by simpa using h0), place_step d cs fs j (by simpa using h1) (by simpa using h2) (fun k hk hkj => by
      have := hb (k + 1) (by simpa using hk) (by omega)
      simpa using this) (by simpa using h)]
    rfl
theorem place_none (d : Dep) : ∀ (cs fr : List Int), cs.length = fr.length → (∀ k (h : k < fr.length), ¬ fr[k] ≤ d.opens) → place d cs fr = none
  | [], fr, _, _ => by simp [place]
  | c :: cs, [], h, _ => by simp at h
  | c :: cs, f :: fs, h, hb => by
    unfold place
    have h0 := hb 0 (by simp)
    rw [if_neg (by simpa using h0), place_none d cs fs (by simpa using h) (fun k hk => by
      have := hb (k + 1) (by simpa using hk)
      simpa using this)]
    rfl
def con10 : Con := { ps := [.d false (.sl (.pair (.pair .str (.pair (.int .i64) (.pair .str (.int .i64)))) (.pair .str (.pair (.int .i64) (.pair (.int .i64) (.pair (.int .i64) (.pair (.int .i64) (.int .i64)))))))), .d false (.sl (.int .i64))], rs := [.d true (.pair (.sl (.pair (.pair .str (.pair (.int .i64) (.pair .str (.int .i64)))) (.int .i64))) (.pair (.int .i64) (.sl (.pair .str (.pair (.int .i64) (.pair .str (.int .i64))))))), .d false (.int .i64)], pre := fun (x : List Dep × List Int × Unit) => x.1.length ≤ 1048576, out := fun (x : List Dep × List Int × Unit) => ((planO x.1 x.2.1).1, (planO x.1 x.2.1).2, ()), nw := id }
theorem c10 : CtrOk Tryz.prog 10 con10.ctr :=
  con_sound (G := ⟨[(23, con23.ctr), (22, con22.ctr), (24, con24.ctr), (25, con25.ctr), (26, con26.ctr), (28, con28.ctr)], [], []⟩) tab_ok (EnvOk.cons c23 has23 (EnvOk.cons c22 has22 (EnvOk.cons c24 has24 (EnvOk.cons c25 has25 (EnvOk.cons c26 has26 (EnvOk.cons c28 has28 EnvOk.nil)))))) rfl Tryz.func10 rfl con10 9240524420396675059 (by kernel_rfl) (by decide) (by decide) rfl (by decide) rfl (by
    rintro ⟨(l : List Dep), (cs : List Int), _⟩ hpre hwf X hT hG hk hK
    have hl : l.length ≤ 1048576 := hpre
    (simp only [go_sem, Prod.eta, Option.isSome_none, Option.isSome_some, Int.toNat_zero, Nat.reduceAdd, Nat.reduceMul, Nat.reduceSub, Nat.reduceEqDiff, Nat.reduceLT, Nat.reduceLeDiff, Nat.reduceShiftRight, Nat.reduceMod, Nat.reduceBEq, reduceCtorEq, reduceIte, reduceDIte, Int.reduceNeg, Bool.not_eq_true', Bool.not_eq_false', Bool.or_eq_true, Bool.or_eq_false_iff, Bool.and_eq_true, Bool.and_eq_false_iff, decide_eq_true_eq, decide_eq_false_iff_not, Classical.not_not, not_or, maxLen, con10, con23, con22, con24, con25, con26, con28, hT, hG, hk, hK, Tryz.results10] at hwf ⊢); (try simp (disch := decide +kernel) only [drawn, true_and, and_true])
    by_cases ha : argsV l cs = 0
    · by_cases hp : (peakV l).2 > (cs.length : Int)
      · have hv : planO l cs = (([], (peakV l).1, openV l (peakV l).1), 0) := by
          unfold planO; rw [if_neg (by omega), if_pos hp]
        rw [hv]
        (repeat' (with_reducible (first | refine And.intro ?_ ?_ | intro _))) <;> (try (first | with_reducible (first | done | assumption | omega | contradiction) | decide))
        all_goals rfl
      · obtain ⟨k1, k2, k3, k4⟩ := plan_keys ha
        obtain ⟨_, k5, k6, _, _⟩ := args_ok ha
        have hv : planO l cs = ((sortAl (greedyV l cs), 0, []), 0) := by
          unfold planO; rw [if_neg (by omega), if_neg hp]
        have hO := isort_len (planV l)
        have hOt : ∀ d ∈ isort (planV l), 0 ≤ d.opens ∧ d.opens < d.closes ∧ d.closes ≤ 1048576 := fun d hd => k4 d ((isort_perm _).mem_iff.1 hd)
        have hg : greedyV l cs = greedy (isort (planV l)) cs (List.replicate cs.length 0) := rfl
        generalize isort (planV l) = O at hO hOt hg ⊢
        (repeat' (with_reducible (first | refine And.intro ?_ ?_ | intro _))) <;> (try (first | with_reducible (first | done | assumption | omega | contradiction) | decide))
        all_goals first
          | (rename_i k hk; exact k3 _ hk)
          | (generalize cs.length = n at *; omega)
          | skip
        refine evk_loop ⟨{ q : Nat × List All × List Int // q.1 ≤ O.length ∧ q.2.1.length ≤ q.1 ∧ q.2.2.length = cs.length ∧ greedyV l cs = q.2.1 ++ greedy (O.drop q.1) cs q.2.2 }, 1000,
          fun q => [(1, .one (.sl (.int .i64) cs false)), (4, .one (.loc 70 0)), (10, .one (.row 64)), (11, .one (.row 65)), (44, .one (.row 66)), (45, .one (.int .i64 O.length)), (46, .one (.int .i64 q.1.1))],
          fun q => [(70, .cells 34 [.undef, .undef, .undef]), (64, .row 3 (.int .i64) q.1.2.2), (65, .row 62 (.pair (.pair .str (.pair (.int .i64) (.pair .str (.int .i64)))) (.int .i64)) q.1.2.1), (66, .row 54 (.pair (.pair .str (.pair (.int .i64) (.pair .str (.int .i64)))) (.pair .str (.pair (.int .i64) (.pair (.int .i64) (.pair (.int .i64) (.pair (.int .i64) (.int .i64))))))) O)], fun q => O.length - q.1.1⟩
          ⟨(0, [], List.replicate cs.length 0), by simp, by simp, by simp, by simpa using hg⟩ ?_ ?_
        · simp only [go_sem, Prod.eta, Option.isSome_none, Option.isSome_some, Int.toNat_zero, Nat.reduceAdd, Nat.reduceMul, Nat.reduceSub, Nat.reduceEqDiff, Nat.reduceLT, Nat.reduceLeDiff, Nat.reduceShiftRight, Nat.reduceMod, Nat.reduceBEq, reduceCtorEq, reduceIte, reduceDIte, Int.reduceNeg]
          exact ⟨rfl, rfl⟩
        · rintro ⟨⟨i, out, fr⟩, (c1 : i ≤ O.length), (c2 : out.length ≤ i), (c3 : fr.length = cs.length), (c4 : greedyV l cs = out ++ greedy (O.drop i) cs fr)⟩
          (simp only [go_sem, Prod.eta, Option.isSome_none, Option.isSome_some, Int.toNat_zero, Nat.reduceAdd, Nat.reduceMul, Nat.reduceSub, Nat.reduceEqDiff, Nat.reduceLT, Nat.reduceLeDiff, Nat.reduceShiftRight, Nat.reduceMod, Nat.reduceBEq, reduceCtorEq, reduceIte, reduceDIte, Int.reduceNeg, Bool.not_eq_true', Bool.not_eq_false', Bool.or_eq_true, Bool.or_eq_false_iff, Bool.and_eq_true, Bool.and_eq_false_iff, decide_eq_true_eq, decide_eq_false_iff_not, Classical.not_not, not_or, maxLen, con10, con23, con22, con24, con25, con26, con28, hT, hG, hk, hK, Tryz.results10]); (try simp (disch := decide +kernel) only [drawn, true_and, and_true])
          refine ⟨fun hlt => ?_, fun hge => ?_⟩
          · have hi' : i < O.length := by omega
            have ek : ∀ z, O.getD (i : Int).toNat z = O[i] := fun z => by simp [hi']
            simp only [ek]
            have hOi := hOt _ (List.getElem_mem hi')
            have hd := List.drop_eq_getElem_cons hi'
            rw [hd, greedy] at c4
            generalize hdd : O[i] = d at hOi c4 ⊢
            (repeat' (with_reducible (first | refine And.intro ?_ ?_ | intro _))) <;> (try (first | with_reducible (first | done | assumption | omega | contradiction) | decide))
            refine evk_loop ⟨{ j : Nat // j ≤ cs.length ∧ ∀ k (h : k < fr.length), k < j → ¬ fr[k] ≤ d.opens }, 2000,
              fun q => [(1, .one (.sl (.int .i64) cs false)), (4, .one (.loc 70 0)), (10, .one (.row 64)), (11, .one (.row 65)), (13, .one (.loc 71 0)), (44, .one (.row 66)), (45, .one (.int .i64 O.length)), (46, .one (.int .i64 i)), (50, .one (.sl (.int .i64) cs false)), (51, .one (.int .i64 cs.length)), (52, .one (.int .i64 q.1))],
              fun q => [(70, .cells 34 [.undef, .undef, .undef]), (64, .row 3 (.int .i64) fr), (65, .row 62 (.pair (.pair .str (.pair (.int .i64) (.pair .str (.int .i64)))) (.int .i64)) out), (66, .row 54 (.pair (.pair .str (.pair (.int .i64) (.pair .str (.int .i64)))) (.pair .str (.pair (.int .i64) (.pair (.int .i64) (.pair (.int .i64) (.pair (.int .i64) (.int .i64))))))) O), (71, .cells 54 (expl (.pair (.pair .str (.pair (.int .i64) (.pair .str (.int .i64)))) (.pair .str (.pair (.int .i64) (.pair (.int .i64) (.pair (.int .i64) (.pair (.int .i64) (.int .i64))))))) d))], fun q => cs.length - q.1⟩ ⟨0, by simp, by intro k h hk; simp at hk⟩ ?_ ?_
            · simp only [go_sem, Prod.eta, Option.isSome_none, Option.isSome_some, Int.toNat_zero, Nat.reduceAdd, Nat.reduceMul, Nat.reduceSub, Nat.reduceEqDiff, Nat.reduceLT, Nat.reduceLeDiff, Nat.reduceShiftRight, Nat.reduceMod, Nat.reduceBEq, reduceCtorEq, reduceIte, reduceDIte, Int.reduceNeg]
              first
                | rfl
                | skip
            · rintro ⟨j, (e1 : j ≤ cs.length), (e2 : ∀ k (h : k < fr.length), k < j → ¬ fr[k] ≤ d.opens)⟩
              (simp only [go_sem, Prod.eta, Option.isSome_none, Option.isSome_some, Int.toNat_zero, Nat.reduceAdd, Nat.reduceMul, Nat.reduceSub, Nat.reduceEqDiff, Nat.reduceLT, Nat.reduceLeDiff, Nat.reduceShiftRight, Nat.reduceMod, Nat.reduceBEq, reduceCtorEq, reduceIte, reduceDIte, Int.reduceNeg, Bool.not_eq_true', Bool.not_eq_false', Bool.or_eq_true, Bool.or_eq_false_iff, Bool.and_eq_true, Bool.and_eq_false_iff, decide_eq_true_eq, decide_eq_false_iff_not, Classical.not_not, not_or, maxLen, con10, con23, con22, con24, con25, con26, con28, hT, hG, hk, hK, Tryz.results10]); (try simp (disch := decide +kernel) only [drawn, true_and, and_true])
              refine ⟨fun hlt2 => ?_, fun hge2 => ?_⟩
              · have hj : j < cs.length := by omega
                have hj2 : j < fr.length := by omega
                have ekc : ∀ z, cs.getD (j : Int).toNat z = cs[j] := fun z => by simp [hj]
                have ekf : ∀ z, fr.getD (j : Int).toNat z = fr[j] := fun z => by simp [hj2]
                simp only [ekc, ekf]
                (repeat' (with_reducible (first | refine And.intro ?_ ?_ | intro _))) <;> (try (first | with_reducible (first | done | assumption | omega | contradiction) | decide))
                · have h : fr[j] ≤ d.opens := by assumption
                  have hp1 := place_step d cs fr j hj hj2 e2 h
                  rw [hp1] at c4
                  refine fin_lp ⟨(i + 1, out ++ [(d.1, cs[j])], fr.set j d.closes), by dsimp only; omega, by rw [List.length_append]; simp only [List.length_singleton]; omega, by dsimp only; rw [List.length_set]; exact c3, by dsimp only; rw [c4]; simp⟩ (by simp only [go_sem, Prod.eta, Option.isSome_none, Option.isSome_some, Int.toNat_zero, Nat.reduceAdd, Nat.reduceMul, Nat.reduceSub, Nat.reduceEqDiff, Nat.reduceLT, Nat.reduceLeDiff, Nat.reduceShiftRight, Nat.reduceMod, Nat.reduceBEq, reduceCtorEq, reduceIte, reduceDIte, Int.reduceNeg]; first | rfl | ((repeat' apply And.intro) <;> first | rfl | assumption | omega)) (by dsimp only; omega)
                · have h : ¬ fr[j] ≤ d.opens := by assumption
                  refine fin_lp ⟨j + 1, by omega, ?_⟩ (by simp only [go_sem, Prod.eta, Option.isSome_none, Option.isSome_some, Int.toNat_zero, Nat.reduceAdd, Nat.reduceMul, Nat.reduceSub, Nat.reduceEqDiff, Nat.reduceLT, Nat.reduceLeDiff, Nat.reduceShiftRight, Nat.reduceMod, Nat.reduceBEq, reduceCtorEq, reduceIte, reduceDIte, Int.reduceNeg]; first | rfl | ((repeat' apply And.intro) <;> first | rfl | assumption | omega)) (by dsimp only; omega)
                  intro k hk hkj
                  rcases Nat.lt_or_eq_of_le (Nat.lt_succ_iff.1 hkj) with h1 | h1
                  · exact e2 k hk h1
                  · subst h1; exact h
              · have hp1 := place_none d cs fr c3.symm (fun k hk => e2 k hk (by omega))
                rw [hp1] at c4
                (repeat' (with_reducible (first | refine And.intro ?_ ?_ | intro _))) <;> (try (first | with_reducible (first | done | assumption | omega | contradiction) | decide))
                refine fin_lp ⟨(i + 1, out, fr), by dsimp only; omega, by dsimp only; omega, c3, c4⟩ (by simp only [go_sem, Prod.eta, Option.isSome_none, Option.isSome_some, Int.toNat_zero, Nat.reduceAdd, Nat.reduceMul, Nat.reduceSub, Nat.reduceEqDiff, Nat.reduceLT, Nat.reduceLeDiff, Nat.reduceShiftRight, Nat.reduceMod, Nat.reduceBEq, reduceCtorEq, reduceIte, reduceDIte, Int.reduceNeg]; first | rfl | ((repeat' apply And.intro) <;> first | rfl | assumption | omega)) (by dsimp only; omega)
          · rw [List.drop_of_length_le (by omega), greedy, List.append_nil] at c4
            rw [hv]
            subst c4
            (repeat' (with_reducible (first | refine And.intro ?_ ?_ | intro _))) <;> (try (first | with_reducible (first | done | assumption | omega | contradiction) | decide))
            all_goals rfl
    · have hv : planO l cs = (([], 0, []), argsV l cs) := by
        unfold planO; rw [if_pos ha]
      rw [hv]
      (repeat' (with_reducible (first | refine And.intro ?_ ?_ | intro _))) <;> (try (first | with_reducible (first | done | assumption | omega | contradiction) | decide))
      all_goals rfl)
end Go.Proofs.YtdmgmdppejopcaaGreat

/- The contracts of the functions that the statements about the makeup reach: a day. -/
set_option linter.unusedSimpArgs false
set_option linter.unusedVariables false
set_option maxRecDepth 100000
set_option maxHeartbeats 4000000
namespace Go.Proofs.YtdmgmdppejopcaaGreat
open Go.Ev

theorem chV_mem {l : List All} (hn : (keysOf l).Nodup) {a : All} (h : a ∈ l) : chV l a.1 = (a.2, true) := by
  induction l with
  | nil => cases h
  | cons b l ih =>
    unfold keysOf at hn
    rw [List.map_cons, List.nodup_cons] at hn
    unfold chV
    rcases List.mem_cons.1 h with rfl | h
    · rw [if_pos rfl]
    · rw [if_neg (fun e => hn.1 (List.mem_map.2 ⟨a, h, e.symm⟩))]
      exact ih hn.2 h
theorem chV_not {l : List All} {f : Flt} (h : ∀ a ∈ l, a.1 ≠ f) : chV l f = (0, false) := by
  induction l with
  | nil => rfl
  | cons b l ih =>
    unfold chV
    rw [if_neg (h b (by simp))]
    exact ih (fun a ha => h a (List.mem_cons_of_mem _ ha))
theorem cmpS_self (a : ByteArray) : cmpS a a = 0 := (cmpS_cmp.eq a a).2 rfl
def f0 : Flt := (⟨#[66, 65]⟩, 1, ByteArray.empty, 1)
def f1 : Flt := (⟨#[66, 65]⟩, 1, ByteArray.empty, 2)
def f2 : Flt := (⟨#[66, 65]⟩, 1, ByteArray.empty, 3)
theorem flts0 : fltsV (0 : Nat) = f0 := rfl
theorem flts1 : fltsV (1 : Nat) = f1 := rfl
theorem flts2 : fltsV (2 : Nat) = f2 := rfl
theorem day_pk : peakV dayV = (15, 2) := by decide +kernel
theorem day_valid : validateV dayV = 0 := by
  have v0 : validV (day1 0 10) = true := by decide +kernel
  have v1 : validV (day1 1 15) = true := by decide +kernel
  have v2 : validV (day1 2 20) = true := by decide +kernel
  have c1 : fltC f0 f1 = -1 := by simp [fltC, f0, f1, cmpS_self, orV, cmpV]
  have c2 : fltC f1 f2 = -1 := by simp [fltC, f1, f2, cmpS_self, orV, cmpV]
  have d1 : fltC (day1 0 10).1 (day1 1 15).1 = -1 := c1
  have d2 : fltC (day1 1 15).1 (day1 2 20).1 = -1 := c2
  unfold validateV dayV
  simp [valF, v0, v1, v2, d1, d2]
theorem day_plan : planV dayV = dayV := rfl
theorem day_sort : isort dayV = dayV := rfl
theorem day_args (cs : List Int) (h1 : cs.length ≤ 6) (h2 : cs.all (fun c => decide (0 ≤ c)) = true) (h3 : ascI cs = true) : argsV dayV cs = 0 := by
  unfold argsV
  rw [day_valid, day_plan]
  have : dayV.length = 3 := rfl
  rw [if_neg (by omega), if_neg (by omega), if_neg (by rw [h2]; simp), if_neg (by rw [h3]; simp)]
theorem day_greedy : greedyV dayV [4, 7] = [(f0, 4), (f1, 7), (f2, 4)] := by
  unfold greedyV
  rw [day_plan, day_sort]
  rfl
theorem day_two : planO dayV [4, 7] = ((sortAl [(f0, 4), (f1, 7), (f2, 4)], 0, []), 0) := by
  unfold planO
  rw [day_args [4, 7] (by decide) (by decide) (by decide), day_pk, day_greedy]
  rfl
theorem day_one : planO dayV [4] = (([], 15, [f0, f1]), 0) := by
  unfold planO
  rw [day_args [4] (by decide) (by decide) (by decide), day_pk]
  have : openV dayV 15 = [f0, f1] := rfl
  dsimp only
  rw [this]
  rfl
theorem day_ch : chV (sortAl [(f0, 4), (f1, 7), (f2, 4)]) f1 = (7, true) := by
  have hk := (plan_keys (day_args [4, 7] (by decide) (by decide) (by decide))).1
  rw [day_greedy] at hk
  have hp := sortAl_perm [(f0, 4), (f1, 7), (f2, 4)]
  exact chV_mem (a := (f1, 7)) (((hp.map _).nodup_iff).2 hk) (hp.mem_iff.2 (by simp))
theorem day_len : (sortAl [(f0, 4), (f1, 7), (f2, 4)]).length = 3 := (sortAl_perm _).length_eq
def con13 : Con := { ps := [], rs := [.d false .bool], pre := fun _ => True, out := fun _ => (true, ()), nw := id }
theorem c13 : CtrOk Tryz.prog 13 con13.ctr :=
  con_sound (G := ⟨[(23, con23.ctr), (10, con10.ctr), (39, con39.ctr), (38, con38.ctr)], [], []⟩) tab_ok (EnvOk.cons c23 has23 (EnvOk.cons c10 has10 (EnvOk.cons c39 has39 (EnvOk.cons c38 has38 EnvOk.nil)))) rfl Tryz.func13 rfl con13 1023 (by kernel_rfl) (by decide) (by decide) rfl (by decide) rfl (by
    rintro _ hpre hwf X hT hG hk hK
    have e1 : dayV[1].1 = f1 := rfl
    have hlen : dayV.length = 3 := rfl
    have e2 : ∀ z, dayV.getD (Int.toNat 1) z = day1 1 15 := fun z => rfl
    have e3 : (day1 1 15).1 = f1 := rfl
    (simp only [go_sem, Prod.eta, Option.isSome_none, Option.isSome_some, Int.toNat_zero, Nat.reduceAdd, Nat.reduceMul, Nat.reduceSub, Nat.reduceEqDiff, Nat.reduceLT, Nat.reduceLeDiff, Nat.reduceShiftRight, Nat.reduceMod, Nat.reduceBEq, reduceCtorEq, reduceIte, reduceDIte, Int.reduceNeg, Bool.not_eq_true', Bool.not_eq_false', Bool.or_eq_true, Bool.or_eq_false_iff, Bool.and_eq_true, Bool.and_eq_false_iff, decide_eq_true_eq, decide_eq_false_iff_not, Classical.not_not, not_or, maxLen, con13, con23, con10, con39, con38, hT, hG, hk, hK, Tryz.results13, day_pk, day_two, day_one, hlen, e2, e3, day_ch, day_len] at hwf ⊢); (try simp (disch := decide +kernel) only [drawn, true_and, and_true])
    (repeat' (with_reducible (first | refine And.intro ?_ ?_ | intro _))) <;> (try (first | with_reducible (first | done | assumption | omega | contradiction) | decide)))
end Go.Proofs.YtdmgmdppejopcaaGreat

/- The law: the peak. -/
set_option linter.unusedSimpArgs false
set_option linter.unusedVariables false
set_option maxRecDepth 100000
set_option maxHeartbeats 4000000
namespace Go.Proofs.YtdmgmdppejopcaaGreat
open Go.Ev

theorem schedL_len : ∀ (n : Nat) (s : Src) (k : Int), (schedL n s k).1.length ≤ n
  | 0, _, _ => Nat.le_refl _
  | n + 1, s, k => by
    unfold schedL
    split
    · split
      · exact Nat.zero_le _
      · exact Nat.succ_le_succ (schedL_len n _ _)
    · exact Nat.zero_le _
theorem schedV_len (s : Src) (n : Int) (h : 0 ≤ n) : ((schedV s n).1.length : Int) ≤ n := by
  have h1 := schedL_len (goMod s.raw (n + 1)).toNat s.step 0
  have h2 := goMod_bd s.raw (n + 1) (by omega)
  unfold schedV
  omega
theorem pk_facts (e : List Dep) : 0 ≤ (peakV e).2 ∧ ((peakV e).2 = 0 → (peakV e).1 = 0) ∧ (peakV e).2 ≤ (openV e (peakV e).1).length ∧ (∀ x, ((openV e x).length : Int) ≤ (peakV e).2) ∧ (∀ x, ((openV e x).length : Int) = (peakV e).2 → 0 < (peakV e).2 → (peakV e).1 ≤ x) := by
  have h := peakV_is e
  simp only [openV_cnt]
  generalize peakV e = p at h ⊢
  unfold IsPk at h
  rcases h with ⟨h1, h2, h3⟩ | ⟨h1, h2, h3⟩
  · have := h3 p.1
    exact ⟨by omega, fun _ => h2, by omega, fun x => by rw [h3 x]; omega, fun x _ h => by omega⟩
  · exact ⟨by omega, fun h => by omega, by omega, fun x => (h3 x).1, fun x k _ => (h3 x).2 k⟩
end Go.Proofs.YtdmgmdppejopcaaGreat
