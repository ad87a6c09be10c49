/- Part. -/
import Derived.Test.YtabadacjbkhmkaaGreatDoorEvNst2ToRa
import Derived.Test.YtabadacjbkhmkaaGreatDoorEvRwToO
set_option linter.all false
set_option maxRecDepth 100000
set_option maxHeartbeats 8000000
namespace Go.Proofs.YtabadacjbkhmkaaGreatDoor
open Go.Ev
attribute [local go_sem] List.set_cons_succ List.set_cons_zero List.getD_cons_succ List.getD_cons_zero List.set_nil
structure MmOk (ns : List Nd) (br : List Bool) (tg : Int) (M : List (List Int)) : Prop where
 a : M.length = ns.length
 b : ∀ i, i < ns.length → (M.getD i []).length = ns.length
 c : ∀ i, i < ns.length → (M.getD i []).getD tg.toNat 0 = -2 ∨ (M.getD i []).getD tg.toNat 0 = dstV ns br tg i
def mmE (f : Nat → List (List Int) → List (List Int)) (ns : List Nd) (tg n : Int) : List Int → List (List Int) → List (List Int)
 | [], M => M
 | x :: xs, M => mmE f ns tg n xs (if goX ns tg n x = true then f x.toNat M else M)
def mmSet (ns : List Nd) (br : List Bool) (tg : Int) (n : Nat) (M : List (List Int)) : List (List Int) := M.set n ((M.getD n []).set tg.toNat (dstV ns br tg n))
def mmF (ns : List Nd) (br : List Bool) (tg : Int) : Nat → Nat → List (List Int) → List (List Int)
 | 0, _, M => M
 | k + 1, n, M => if (M.getD n []).getD tg.toNat 0 ≠ -2 then M
   else mmSet ns br tg n (if brkV br n = true ∨ (n : Int) = tg then M else mmE (mmF ns br tg k) ns tg n (ns.getD n nd0).2.2.2.2 M)
theorem nC6 {ns : List Nd} {br : List Bool} {tg : Int} {n : Nat} {M : List (List Int)} (h : MmOk ns br tg M) (hn : n < ns.length) (ht : tg.toNat < ns.length) : MmOk ns br tg (mmSet ns br tg n M) := by
 have ha := h.a; have hbn := h.b n hn; have e : ∀ i, (mmSet ns br tg n M).getD i [] = if i = n then (M.getD n []).set tg.toNat (dstV ns br tg n) else M.getD i [] := fun i => by
  unfold mmSet; by_cases hi : i = n
  · subst hi; rw [if_pos rfl]; simp [show i < M.length by omega]
  · rw [if_neg hi]; exact getD_set_ne hi
 refine ⟨by unfold mmSet; rw [List.length_set]; exact ha, fun i hi => ?_, fun i hi => ?_⟩
 · rw [e]; split
   · rw [List.length_set]; exact hbn
   · exact h.b i hi
 · rw [e]; split
   · rename_i hi; subst hi; right; rw [gdE, List.getElem?_set_self (by omega)]; rfl
   · exact h.c i hi
theorem aC9 {ns : List Nd} {br : List Bool} {tg n : Int} {f : Nat → List (List Int) → List (List Int)} : ∀ (l : List Int) (M : List (List Int)), (∀ x ∈ l, goX ns tg n x = true → ∀ M, MmOk ns br tg M → MmOk ns br tg (f x.toNat M)) → MmOk ns br tg M → MmOk ns br tg (mmE f ns tg n l M)
 | [], M, _, h => h
 | x :: l, M, hf, h => by
   unfold mmE; refine aC9 l _ (fun y hy => hf y (List.mem_cons_of_mem _ hy)) ?_; split
   · rename_i hg; exact hf x List.mem_cons_self hg M h
   · exact h
theorem pC1 {ds : List Dv} {ns : List Nd} (hg : GoodL (ns, ds)) {n : Nat} (hn : n < ns.length) {tg x : Int} (hx : x ∈ (ns.getD n nd0).2.2.2.2) (h : goX ns tg n x = true) : (n : Int) < x ∧ x < ns.length := by
 refine hg.fwd hn hx fun e => ?_; unfold goX at h; simp [e] at h
theorem eB9 {ds : List Dv} {ns : List Nd} (hg : GoodL (ns, ds)) {br : List Bool} {tg : Int} (ht : tg.toNat < ns.length) : ∀ (k n : Nat) (M : List (List Int)), n < ns.length → MmOk ns br tg M → MmOk ns br tg (mmF ns br tg k n M)
 | 0, _, M, _, h => h
 | k + 1, n, M, hn, h => by
   unfold mmF; split
   · exact h
   · refine nC6 ?_ hn ht; split
     · exact h
     · refine aC9 _ _ (fun x hx hgo M hM => ?_) h; have := pC1 hg hn hx hgo; exact eB9 hg ht k _ M (by omega) hM
def wayP (k : Nat) (ns : List Nd) (ds : List Dv) (br : List Bool) (n tg : Int) (l : Nat) (M : List (List Int)) : Prop :=
 GoodL (ns, ds) ∧ MmOk ns br tg M ∧ (0 ≤ n ∧ n < ns.length) ∧ (0 ≤ tg ∧ tg < ns.length) ∧ strN (ns.getD tg.toNat nd0).2.1 = false ∧ l = ns.length ∧ (ns.length : Int) - n ≤ k
def wayE (k : Nat) (q : Prop) (n tg : Int) (l f : Nat) : Option (List (List Int)) → Option (List Bool) → Option (List Nd) → Option (List Dv) → Eff
 | some M, some br, some ns, some ds => ⟨q ∧ wayP k ns ds br n tg l M, .one (.int .i64 (dstV ns br tg n)), [(f, .fam 3 yI (mmF ns br tg k n.toNat M))], True⟩
 | _, _, _, _ => bad
def wayF (k : Nat) (n tg : Int) (a b c d : Nat) (q : Prop) (l f : Nat) : Blk → Blk → Blk → Blk → Eff
 | .fam e1 u M, .cells e2 [.sl t br false], .cells e3 [.sl t1 ns false, .sl t2 ds false], .cells e4 [.fn g [.loc a' 0, .loc b' 0, .loc c' 0, .loc d' 0]] =>
   wayE k ((q ∧ e1 = 3 ∧ e2 = 23 ∧ e3 = 30 ∧ e4 = 76) ∧ g = 150 ∧ a' = a ∧ b' = b ∧ c' = c ∧ d' = d) n tg l f (castTy (.sl u) (.sl yI) M) (castTy t .bool br) (castTy t1 yNO ns) (castTy t2 yPL ds)
 | _, _, _, _ => bad
def wayG (k : Nat) (n tg : Int) (a b c d : Nat) (q : Prop) (m : Mem) : Blk → Eff
 | .rowg e t p f xs none => wayF k n tg a b c d (q ∧ e = 22 ∧ t = .sl yI ∧ p = 0) xs.length f (m f) (m b) (m c) (m d)
 | _ => bad
def wayH (k : Nat) (n tg : Int) (a b c d : Nat) (m : Mem) : Blk → Eff
 | .cells e [.row r] => wayG k n tg a b c d (e = 35) m (m r)
 | _ => bad
def wayC (k : Nat) : Ctr := fun avs m _ => match avs with
 | [.one (.int .i64 n), .one (.int .i64 tg), .one (.loc a 0), .one (.loc b 0), .one (.loc c 0), .one (.loc d 0)] => wayH k n tg a b c d m (m a)
 | _ => bad
def conWay (k : Nat) : RawT := ⟨wayC k⟩
theorem yC2 {k : Nat} {avs : List AV} {m : Mem} {fr : Nat} (hp : (wayC k avs m fr).pre) : ∃ (n tg : Int) (a b c d r f : Nat) (xs : List (List Int)) (M : List (List Int)) (br : List Bool) (ns : List Nd) (ds : List Dv) (P : Prop),
 avs = [.one (.int .i64 n), .one (.int .i64 tg), .one (.loc a 0), .one (.loc b 0), .one (.loc c 0), .one (.loc d 0)] ∧ m a = .cells 35 [.row r] ∧ m r = .rowg 22 (.sl yI) 0 f xs none ∧ m f = .fam 3 yI M ∧
 m b = .cells 23 [.sl .bool br false] ∧ m c = .cells 30 [.sl yNO ns false, .sl yPL ds false] ∧ m d = .cells 76 [.fn 150 [.loc a 0, .loc b 0, .loc c 0, .loc d 0]] ∧ wayP k ns ds br n tg xs.length M ∧
 wayC k avs m fr = ⟨P, .one (.int .i64 (dstV ns br tg n)), [(f, .fam 3 yI (mmF ns br tg k n.toNat M))], True⟩ := by
 unfold wayC at hp ⊢; split at hp
 · rename_i n tg a b c d; unfold wayH at hp; split at hp
   · rename_i e r ha; unfold wayG at hp; split at hp
     · rename_i e2 t p f xs hr; unfold wayF at hp; split at hp
       · rename_i e1 u M e3 t1 br e4 t2 ns t3 ds e5 g a' b' c' d' hf hb hc hd; unfold castTy at hp; by_cases h1 : Ty.sl u = .sl yI
         · by_cases h2 : t1 = .bool
           · by_cases h3 : t2 = yNO
             · by_cases h4 : t3 = yPL
               · cases h1; subst h2; subst h3; subst h4; simp only [dif_pos] at hp; obtain ⟨⟨⟨⟨rfl, rfl, rfl, rfl⟩, rfl, rfl, rfl, rfl⟩, rfl, rfl, rfl, rfl, rfl⟩, hP⟩ := hp; refine ⟨n, tg, a', b', c', d', r, f, xs, M, br, ns, ds, (wayH k n tg a' b' c' d' m (m a')).pre, rfl, ha, hr, hf, hb, hc, hd, hP, ?_⟩; simp only [wayH, ha, wayG, hr, wayF, hf, hb, hc, hd, castTy, dif_pos, wayE]
               · simp only [dif_pos h1, dif_pos h2, dif_pos h3, dif_neg h4] at hp; exact hp.elim
             · simp only [dif_pos h1, dif_pos h2, dif_neg h3] at hp; exact hp.elim
           · simp only [dif_pos h1, dif_neg h2] at hp; exact hp.elim
         · simp only [dif_neg h1] at hp; exact hp.elim
       · exact hp.elim
     · exact hp.elim
   · exact hp.elim
 · exact hp.elim
theorem zWay : CtrOk Tryz.prog 150 (conWay 0).ctr := by
 intro D gv hDS cx hcd σ N m w fr avs vs hM hfr hreps hp; obtain ⟨n, tg, a, b, c, d, r, f, xs, M, br, ns, ds, P, _, _, _, _, _, _, _, hP, _⟩ := yC2 (k := 0) (fr := fr) hp; obtain ⟨_, _, h1, _, _, _, h2⟩ := hP; omega
def wayL (a b c d r f : Nat) : List (Nat × Nat) := [(2, a), (3, b), (4, c), (5, d), (6, r), (7, f)]
def wayO (ns : List Nd) (ds : List Dv) (br : List Bool) (xs M : List (List Int)) : List Blk := [.cells 35 [.row 6], .cells 23 [.sl .bool br false], .cells 30 [.sl yNO ns false, .sl yPL ds false], .cells 76 [.fn 150 [.loc 2 0, .loc 3 0, .loc 4 0, .loc 5 0]], .rowg 22 (.sl yI) 0 7 xs none, .fam 3 yI M]
def way0 (ns : List Nd) (ds : List Dv) (br : List Bool) (xs M : List (List Int)) : Heap := [(2, .cells 35 [.row 6]), (3, .cells 23 [.sl .bool br false]), (4, .cells 30 [.sl yNO ns false, .sl yPL ds false]), (5, .cells 76 [.fn 150 [.loc 2 0, .loc 3 0, .loc 4 0, .loc 5 0]]), (6, .rowg 22 (.sl yI) 0 7 xs none), (7, .fam 3 yI M)]
theorem upd_same {m : Mem} : ∀ {H : Heap}, (∀ p ∈ H, m p.1 = p.2) → updM m H = m
 | [], _ => rfl
 | (k, b) :: r, h => by
   have e : (fun i => if k = i then b else m i) = m := by
    funext i; by_cases q : k = i
    · subst q; rw [if_pos rfl]; exact (h _ List.mem_cons_self).symm
    · rw [if_neg q]
   rw [updM, e]; exact upd_same fun p hp => h p (List.mem_cons_of_mem _ hp)
theorem bD6 {m : Mem} {a b c d r f fr : Nat} {ns : List Nd} {ds : List Dv} {br : List Bool} {xs M M' : List (List Int)} (ha : m a = .cells 35 [.row r]) (hr : m r = .rowg 22 (.sl yI) 0 f xs none) (hf : m f = .fam 3 yI M)
 (hb : m b = .cells 23 [.sl .bool br false]) (hc : m c = .cells 30 [.sl yNO ns false, .sl yPL ds false]) (hd : m d = .cells 76 [.fn 150 [.loc a 0, .loc b 0, .loc c 0, .loc d 0]]) :
 updM m ([] ++ (oldU (rnL (wayL a b c d r f) fr) (wayL a b c d r f) (wayO ns ds br xs M') ++ newU (rnL (wayL a b c d r f) fr) fr [])) = updM m [(f, .fam 3 yI M')] := by
 funext i; have e : oldU (rnL (wayL a b c d r f) fr) (wayL a b c d r f) (wayO ns ds br xs M') = [(a, .cells 35 [.row r]), (b, .cells 23 [.sl .bool br false]), (c, .cells 30 [.sl yNO ns false, .sl yPL ds false]), (d, .cells 76 [.fn 150 [.loc a 0, .loc b 0, .loc c 0, .loc d 0]]), (r, .rowg 22 (.sl yI) 0 f xs none), (f, .fam 3 yI M')] := rfl; have h1 : updM m [(a, .cells 35 [.row r]), (b, .cells 23 [.sl .bool br false]), (c, .cells 30 [.sl yNO ns false, .sl yPL ds false]), (d, .cells 76 [.fn 150 [.loc a 0, .loc b 0, .loc c 0, .loc d 0]]), (r, .rowg 22 (.sl yI) 0 f xs none)] = m := upd_same fun p hp => by
  simp only [List.mem_cons, List.not_mem_nil, or_false] at hp
  rcases hp with rfl | rfl | rfl | rfl | rfl
  · exact ha
  · exact hb
  · exact hc
  · exact hd
  · exact hr
 have h2 := xA0 (m := m) [(a, .cells 35 [.row r]), (b, .cells 23 [.sl .bool br false]), (c, .cells 30 [.sl yNO ns false, .sl yPL ds false]), (d, .cells 76 [.fn 150 [.loc a 0, .loc b 0, .loc c 0, .loc d 0]]), (r, .rowg 22 (.sl yI) 0 f xs none)] [(f, .fam 3 yI M')]; rw [h1] at h2; rw [e]; exact congrFun h2 i
attribute [local go_sem] rawPost resS oldH newH wayO way0 wayC wayH wayG wayF wayE conWay
theorem zC6 (k : Nat) (ns : List Nd) (ds : List Dv) (br : List Bool) (n tg : Int) (xs M : List (List Int)) (a b c' d r f : Nat) (hp : wayP (k + 1) ns ds br n tg xs.length M) {c : Code} (hc : Tryz.f150.body = some c) (X : Wk) (hT : X.T = tab) (hG : X.G = ⟨[(132, con132.ctr), (150, (conWay k).ctr)], [], [(16, 10), (24, 10), (100, 10)], [], []⟩) (hk : X.ks = 154818136561392464560134975)
 (hK : X.K = rawPost tab Tryz.f150.results.toList (wayL a b c' d r f) (fun _ : Unit => True) (fun _ => [.one (.int .i64 (dstV ns br tg n))]) (fun _ => wayO ns ds br xs (mmF ns br tg (k + 1) n.toNat M)) (fun _ => [])) :
 evk X c [(0, .one (.int .i64 n)), (1, .one (.int .i64 tg)), (2, .one (.loc 2 0)), (3, .one (.loc 3 0)), (4, .one (.loc 4 0)), (5, .one (.loc 5 0))] (way0 ns ds br xs M) 32 [] := by
 cases hc; unfold wayL at hK; obtain ⟨hg, hm, ⟨hn0, hn1⟩, ⟨ht0, ht1⟩, hst, hxl, hkk⟩ := hp; obtain ⟨n, rfl⟩ : ∃ q : Nat, n = q := ⟨n.toNat, by omega⟩; have enn : (n : Int).toNat = n := Int.toNat_natCast n; have hn : n < ns.length := by omega
 simp only [enn] at hK
 (simp -implicitDefEqProofs (maxSteps := 4000000) only [go_sem, bP, conWay, con132, hT, hG, hk, hK, Tryz.results150])
 obtain ⟨y, ey⟩ : ∃ y, ns.getD n nd0 = y := ⟨_, rfl⟩; have ek : ∀ z, ns.getD n z = y := fun z => by rw [← ey]; simp [hn]
 obtain ⟨R, eR⟩ : ∃ R, M.getD n [] = R := ⟨_, rfl⟩; have hRl : R.length = ns.length := by rw [← eR]; exact hm.b n hn
 obtain ⟨v, ev⟩ : ∃ v, R.getD tg.toNat 0 = v := ⟨_, rfl⟩; have hv : v = -2 ∨ v = dstV ns br tg n := by
  have := hm.c n hn; rw [eR, ev] at this; exact this
 have hbd := iC2 hg br tg; have hdn := bB0 hg (br := br) (tg := tg) hn; have hl8 := len8 hg n; rw [ey] at hdn hl8; have hF : mmF ns br tg (k + 1) n M = if v ≠ -2 then M else mmSet ns br tg n (if brkV br n = true ∨ (n : Int) = tg then M else mmE (mmF ns br tg k) ns tg n y.2.2.2.2 M) := by
  rw [mmF, eR, ev, ey]
 have hF1 : ¬ v = -2 → mmF ns br tg (k + 1) n M = M := fun h => by rw [hF, if_pos h]
 have hV1 : ¬ v = -2 → v = dstV ns br tg n := fun h => hv.resolve_left h; have hbr : brkV br n = true ↔ (n : Int) < br.length ∧ br.getD n false = true := by
  unfold brkV; rw [enn, Bool.and_eq_true, decide_eq_true_eq]
 have hS : ∀ M' : List (List Int), mmSet ns br tg n M' = M'.set n ((M'.getD n []).set tg.toNat (dstV ns br tg n)) := fun _ => rfl; have hF2 : v = -2 → ((n : Int) < br.length ∧ br.getD n false = true) → mmF ns br tg (k + 1) n M = M.set n (R.set tg.toNat (-1)) ∧ dstV ns br tg n = -1 := fun h h2 => by
  have h3 := hbr.2 h2; have h4 : dstV ns br tg n = -1 := by rw [hdn, if_pos h3]
  rw [hF, if_neg (fun q => q h), if_pos (.inl h3), hS, eR, h4]; exact ⟨rfl, rfl⟩
 have hF3 : v = -2 → (¬ (n : Int) < br.length ∨ br.getD n false = false) → (n : Int) = tg → mmF ns br tg (k + 1) n M = M.set n (R.set tg.toNat y.2.2.1) ∧ dstV ns br tg n = y.2.2.1 := fun h h2 h5 => by
  have h3 : ¬ brkV br n = true := fun q => h2.elim (fun e => e (hbr.1 q).1) (fun e => by rw [(hbr.1 q).2] at e; cases e); have h6 : y.2.2.1 = 0 := by
   have := (hg.nd n hn).l0; dsimp only at this; rw [ey] at this; refine this ?_; rw [← h5, enn, ey] at hst; exact hst
  have h4 : dstV ns br tg n = y.2.2.1 := by rw [hdn, if_neg h3, if_pos h5, h6]
  rw [hF, if_neg (fun q => q h), if_pos (.inr h5), hS, eR, h4]; exact ⟨rfl, rfl⟩
 have hkey : v = -2 → (¬ (n : Int) < br.length ∨ br.getD n false = false) → ¬ (n : Int) = tg → ∃ D Mf, dstV ns br tg n = D ∧ D = bestE y.2.2.1 (fun x => goX ns tg n x && decide (0 ≤ dstV ns br tg x)) (dstV ns br tg) y.2.2.2.2 (-1) ∧ Mf = mmE (mmF ns br tg k) ns tg n y.2.2.2.2 M ∧ mmF ns br tg (k + 1) n M = Mf.set n ((Mf.getD n []).set tg.toNat D) := fun h h2 h5 => by
  have h3 : ¬ brkV br n = true := fun q => h2.elim (fun e => e (hbr.1 q).1) (fun e => by rw [(hbr.1 q).2] at e; cases e); refine ⟨_, _, rfl, by rw [hdn, if_neg h3, if_neg h5], rfl, ?_⟩; rw [hF, if_neg (fun q => q h), if_neg (fun q => q.elim h3 h5), hS]
 have hfd : ∀ x ∈ y.2.2.2.2, 0 ≤ x ∧ x < ns.length ∧ (goX ns tg n x = true → (n : Int) < x) := fun x hx => by
  by_cases e : x = (n : Int)
  · exact ⟨by omega, by omega, fun q => (pC1 hg hn (by rw [ey]; exact hx) q).1⟩
  · have := hg.fwd hn (by rw [ey]; exact hx) e; exact ⟨by omega, by omega, fun _ => this.1⟩
 simp only [enn, ek, eR, ev, hxl, hRl]
 (repeat' with_reducible first | refine And.intro ?_ ?_ | intro _) <;> try first | with_reducible (first | assumption | omega | contradiction) | decide
 all_goals first
  | omega
  | (obtain h := hF1 (by assumption)
     exact ⟨(), h.symm, hV1 (by assumption)⟩)
  | (obtain ⟨q1, q2⟩ := hF2 (by assumption) (by assumption)
     exact ⟨(), q1.symm, q2.symm⟩)
  | (obtain ⟨q1, q2⟩ := hF3 (by assumption) (by assumption) (by assumption)
     exact ⟨(), q1.symm, q2.symm⟩)
  | skip
 obtain ⟨D, Mf, hD, hDe, hMf, hMM⟩ := hkey (by assumption) (by assumption) (by assumption); rw [hMM, hD] at hK; have hbK := hbd n; rw [hD] at hbK; refine cA0 ⟨{ q : Nat × Int × List (List Int) // q.1 ≤ y.2.2.2.2.length ∧ D = bestE y.2.2.1 (fun x => goX ns tg n x && decide (0 ≤ dstV ns br tg x)) (dstV ns br tg) (y.2.2.2.2.drop q.1) q.2.1 ∧ Mf = mmE (mmF ns br tg k) ns tg n (y.2.2.2.2.drop q.1) q.2.2 ∧ MmOk ns br tg q.2.2 ∧ -1 ≤ q.2.1 ∧ q.2.1 ≤ 400 }, 1000, fun q => [(0, .one (.int .i64 n)), (1, .one (.int .i64 tg)), (2, .one (.loc 2 0)), (3, .one (.loc 3 0)), (4, .one (.loc 4 0)), (5, .one (.loc 5 0)), (9, .one (.int .i64 q.1.2.1)), (33, .one (.sl yI y.2.2.2.2 false)), (34, .one (.int .i64 y.2.2.2.2.length)), (35, .one (.int .i64 (q.1.1 : Int)))], fun q => way0 ns ds br xs q.1.2.2, fun q => y.2.2.2.2.length - q.1.1⟩ ⟨(0, -1, M), Nat.zero_le _, hDe, hMf, hm, Int.le_refl _, (show (-1 : Int) ≤ 400 by decide)⟩ ?_ ?_
 · simp only [go_sem]; rfl
 · rintro ⟨⟨j, b, N⟩, (hj : j ≤ y.2.2.2.2.length), (hb1 : D = bestE y.2.2.1 (fun x => goX ns tg n x && decide (0 ≤ dstV ns br tg x)) (dstV ns br tg) (y.2.2.2.2.drop j) b), (hb2 : Mf = mmE (mmF ns br tg k) ns tg n (y.2.2.2.2.drop j) N), (hN : MmOk ns br tg N), (hb3 : -1 ≤ b), (hb4 : b ≤ 400)⟩
   (simp -implicitDefEqProofs (maxSteps := 4000000) only [go_sem, bP, conWay, con132, hT, hG, hk, hK, Tryz.results150])
   have ejj : (j : Int).toNat = j := Int.toNat_natCast j; refine ⟨fun hlt => ?_, fun hge => ?_⟩
   · have hj' : j < y.2.2.2.2.length := by omega
     have ejk : ∀ z, y.2.2.2.2.getD j z = y.2.2.2.2[j] := fun z => by simp [hj']
     have hfx := hfd y.2.2.2.2[j] (List.getElem_mem hj'); rw [List.drop_eq_getElem_cons hj'] at hb1 hb2; rw [bestE] at hb1; rw [mmE] at hb2; simp only [ejj, ejk, enn, ek]; generalize y.2.2.2.2[j] = x at *; have hbx := hbd x; have hNx : goX ns tg n x = true → MmOk ns br tg (mmF ns br tg k x.toNat N) := fun q => eB9 hg (by omega) k x.toNat N (by omega) hN; have hP : goX ns tg n x = true → wayP k ns ds br x tg xs.length N := fun q => ⟨hg, hN, ⟨by omega, by omega⟩, ⟨ht0, ht1⟩, hst, hxl, by have := hfx.2.2 q; omega⟩; have b1 : goX ns tg n x = true → 0 ≤ dstV ns br tg x → (b < 0 ∨ dstV ns br tg x + y.2.2.1 < b) → _ := fun q1 q2 q3 => hb1.trans (by rw [if_pos ⟨by rw [q1, decide_eq_true q2]; rfl, q3⟩]); have b2 : ¬ (goX ns tg n x = true ∧ 0 ≤ dstV ns br tg x ∧ (b < 0 ∨ dstV ns br tg x + y.2.2.1 < b)) → _ := fun q => hb1.trans (by rw [if_neg (fun w => by
      rw [Bool.and_eq_true, decide_eq_true_eq] at w; exact q ⟨w.1.1, w.1.2, w.2⟩)])
     have m1 : goX ns tg n x = true → _ := fun q => hb2.trans (by rw [if_pos q]); have m2 : goX ns tg n x = false → _ := fun q => hb2.trans (by rw [if_neg (by rw [q]; decide)])
     (repeat' with_reducible first | refine And.intro ?_ ?_ | intro _) <;> try first | with_reducible (first | assumption | omega | contradiction) | decide
     all_goals first
      | omega
      | exact hP (by assumption)
      | (have q : goX ns tg n x = false := by assumption
         refine dA0 ⟨(j + 1, b, N), by dsimp only; omega, b2 (fun w => by rw [q] at w; cases w.1), m2 q, hN, hb3, hb4⟩ ?_ (by dsimp only; omega); simp only [go_sem]; rfl
         done)
      | (have q : goX ns tg n x = true := by assumption
         refine dA0 ⟨(j + 1, dstV ns br tg x + y.2.2.1, mmF ns br tg k x.toNat N), by dsimp only; omega, b1 q (by omega) (by omega), m1 q, hNx q, by dsimp only; omega, by dsimp only; omega⟩ ?_ (by dsimp only; omega); simp only [go_sem]; rfl
         done)
      | (have q : goX ns tg n x = true := by assumption
         refine dA0 ⟨(j + 1, b, mmF ns br tg k x.toNat N), by dsimp only; omega, b2 (by omega), m1 q, hNx q, hb3, hb4⟩ ?_ (by dsimp only; omega); simp only [go_sem]; rfl
         done)
   · have hjl : j = y.2.2.2.2.length := by omega
     rw [hjl, List.drop_length] at hb1 hb2; have hb1 : D = b := hb1; have hb2 : Mf = N := hb2; have hNl := hN.b n hn; simp only [enn, hxl, hNl]; exact ⟨⟨by omega, by omega⟩, fun _ => ⟨⟨by omega, by omega⟩, ⟨by omega, by omega⟩, fun _ => ⟨⟨by omega, by omega⟩, (), by rw [hb1, hb2], hb1.symm⟩⟩⟩
theorem sWay (k : Nat) (ih : CtrOk Tryz.prog 150 (conWay k).ctr) : CtrOk Tryz.prog 150 (conWay (k + 1)).ctr := by
 intro D gv hDS cx hcd σ N m w fr avs vs hM hfr hreps hp; obtain ⟨n, tg, a, b, c, d, r, f, xs, M, br, ns, ds, P, rfl, ha, hr, hf, hb, hc, hd, hP, hE⟩ := yC2 (k := k + 1) (fr := fr) hp; show Calls Tryz.prog 150 vs.toArray w fun e w' => ∃ v, e = .returned v ∧ Res cx σ N m w fr (wayC (k + 1) _ m fr) v w'; rw [hE]; have ne : ∀ {i j : Nat} {B C : Blk}, m i = B → m j = C → B ≠ C → i ≠ j := fun h1 h2 h e => h (by rw [← h1, ← h2, e])
 have cne : ∀ {e e' : Nat} {cs cs' : List C1}, e ≠ e' → Blk.cells e cs ≠ Blk.cells e' cs' := fun h q => by injection q with q1 _; exact h q1
 have hvs : ∃ v0 v1 v2 v3 v4 v5, vs = [v0, v1, v2, v3, v4, v5] ∧ repA (rx cx σ N m w) (.one (.int .i64 n)) v0 ∧ repA (rx cx σ N m w) (.one (.int .i64 tg)) v1 ∧ repA (rx cx σ N m w) (.one (.loc a 0)) v2 ∧ repA (rx cx σ N m w) (.one (.loc b 0)) v3 ∧ repA (rx cx σ N m w) (.one (.loc c 0)) v4 ∧ repA (rx cx σ N m w) (.one (.loc d 0)) v5 := by
  simp only [repAs] at hreps; obtain ⟨v0, r0, rfl, k0, v1, r1, rfl, k1, v2, r2, rfl, k2, v3, r3, rfl, k3, v4, r4, rfl, k4, v5, r5, rfl, k5, rfl⟩ := hreps; exact ⟨v0, v1, v2, v3, v4, v5, rfl, k0, k1, k2, k3, k4, k5⟩
 obtain ⟨v0, v1, v2, v3, v4, v5, rfl, k0, k1, k2, k3, k4, k5⟩ := hvs; have nod : [a, b, c, d, r, f].Nodup := by
  simp only [List.nodup_cons, List.mem_cons, List.not_mem_nil, or_false, not_or, not_false_eq_true, List.nodup_nil, and_true]; refine ⟨⟨ne ha hb (cne (by decide)), ne ha hc (cne (by decide)), ne ha hd (cne (by decide)), ne ha hr (by nofun), ne ha hf (by nofun)⟩, ⟨ne hb hc (cne (by decide)), ne hb hd (cne (by decide)), ne hb hr (by nofun), ne hb hf (by nofun)⟩, ⟨ne hc hd (cne (by decide)), ne hc hr (by nofun), ne hc hf (by nofun)⟩, ⟨ne hd hr (by nofun), ne hd hf (by nofun)⟩, ne hr hf (by nofun)⟩
 refine (xB0 eA0 rfl Tryz.func150 rfl 154818136561392464560134975 (G := ⟨[(132, con132.ctr), (150, (conWay k).ctr)], [], [(16, 10), (24, 10), (100, 10)], [], []⟩) (by kernel_rfl) (by decide) (hcd.1.symm ▸ hcd.2.symm ▸ (EnvOk.cons c132 has132 (EnvOk.cons ih has150 EnvOk.nil)).at_ hDS) hM hfr (by show 6 ≤ Tryz.f150.ntmps; decide) (wayL a b c d r f) (by show [2, 3, 4, 5, 6, 7].Nodup; decide) nod ?_ [] (fun p hp => (by simp)) (fun p hp => (by cases hp)) [(0, .one (.int .i64 n)), (1, .one (.int .i64 tg)), (2, .one (.loc 2 0)), (3, .one (.loc 3 0)), (4, .one (.loc 4 0)), (5, .one (.loc 5 0))] (way0 ns ds br xs M) ?_ ?_ (Y := Unit) (fun _ => True) (fun _ => [.one (.int .i64 (dstV ns br tg n))]) (fun _ => wayO ns ds br xs (mmF ns br tg (k + 1) n.toNat M)) (fun _ => []) ?_ ?_).mono ?_
 · intro p hp; simp only [wayL, List.mem_cons, List.not_mem_nil, or_false] at hp
   rcases hp with rfl | rfl | rfl | rfl | rfl | rfl
   · exact ⟨show 2 < 32 by decide, by simp only [ha]; rfl⟩
   · exact ⟨show 3 < 32 by decide, by simp only [hb]; rfl⟩
   · exact ⟨show 4 < 32 by decide, by simp only [hc]; rfl⟩
   · exact ⟨show 5 < 32 by decide, by simp only [hd]; rfl⟩
   · exact ⟨show 6 < 32 by decide, by simp only [hr]; rfl⟩
   · exact ⟨show 7 < 32 by decide, by simp only [hf]; rfl⟩
 · intro i hi
   rcases lA2 (d := Blk.dead) (way0 ns ds br xs M) i with e | e
   · exact absurd e hi
   · simp only [way0, List.mem_cons, List.not_mem_nil, or_false, Prod.mk.injEq] at e
     rcases e with ⟨rfl, _⟩ | ⟨rfl, _⟩ | ⟨rfl, _⟩ | ⟨rfl, _⟩ | ⟨rfl, _⟩ | ⟨rfl, _⟩
     · exact ⟨a, by simp [wayL]⟩
     · exact ⟨b, by simp [wayL]⟩
     · exact ⟨c, by simp [wayL]⟩
     · exact ⟨d, by simp [wayL]⟩
     · exact ⟨r, by simp [wayL]⟩
     · exact ⟨f, by simp [wayL]⟩
 · intro x1 hw hO hl; have hkp : Keep (rx cx σ N m w).w x1.w (rx cx σ N m w).O x1.O := keepsw (x := rx cx σ N m w) (y := x1) hw (fun b hb => hO b hb); have hσ : ∀ q, (q, rnL (wayL a b c d r f) fr q) ∈ wayL a b c d r f → ¬ x1.N q ∧ x1.σ q = (rx cx σ N m w).σ (rnL (wayL a b c d r f) fr q) := fun q hq => ⟨(hl _ _ hq).2, (hl _ _ hq).1⟩; have hin : ∀ q, 2 ≤ q → q ≤ 7 → (q, rnL (wayL a b c d r f) fr q) ∈ wayL a b c d r f := fun q h2 h7 => by
    match q, h2, h7 with
    | 2, _, _ => show (2, a) ∈ _; simp [wayL]
    | 3, _, _ => show (3, b) ∈ _; simp [wayL]
    | 4, _, _ => show (4, c) ∈ _; simp [wayL]
    | 5, _, _ => show (5, d) ∈ _; simp [wayL]
    | 6, _, _ => show (6, r) ∈ _; simp [wayL]
    | 7, _, _ => show (7, f) ∈ _; simp [wayL]
   have key : ∀ (i id : Nat) (B : Blk), (i, id) ∈ wayL a b c d r f → m id = rnB (rnL (wayL a b c d r f) fr) B → (∀ q ∈ idsX B, 2 ≤ q ∧ q ≤ 7) → repB x1 i B := fun i id B hi hB hx => by
    have h1 := hM.blk id; rw [hB] at h1; exact nD2 hw hkp hσ (hl i id hi).1 B (fun q hq => hin q (hx q hq).1 (hx q hq).2) h1
   refine ⟨fun i id hi => ?_, fun j v hj => ?_⟩
   · have hi0 := hi; simp only [wayL, List.mem_cons, List.not_mem_nil, or_false, Prod.mk.injEq] at hi
     rcases hi with ⟨rfl, rfl⟩ | ⟨rfl, rfl⟩ | ⟨rfl, rfl⟩ | ⟨rfl, rfl⟩ | ⟨rfl, rfl⟩ | ⟨rfl, rfl⟩
     · exact key 2 _ (.cells 35 [.row 6]) hi0 (ha.trans rfl) (by simp [idsX, idsB, fidB, idsCs, idsC])
     · exact key 3 _ (.cells 23 [.sl .bool br false]) hi0 (hb.trans rfl) (by simp [idsX, idsB, fidB, idsCs, idsC])
     · exact key 4 _ (.cells 30 [.sl yNO ns false, .sl yPL ds false]) hi0 (hc.trans rfl) (by simp [idsX, idsB, fidB, idsCs, idsC])
     · exact key 5 _ (.cells 76 [.fn 150 [.loc 2 0, .loc 3 0, .loc 4 0, .loc 5 0]]) hi0 (hd.trans rfl) (by simp [idsX, idsB, fidB, idsCs, idsC])
     · exact key 6 _ (.rowg 22 (.sl yI) 0 7 xs none) hi0 (hr.trans rfl) (by simp [idsX, idsB, fidB, idsCs, idsC])
     · exact key 7 _ (.fam 3 yI M) hi0 (hf.trans rfl) (by simp [idsX, idsB, fidB, idsCs, idsC])
   · simp only [List.mem_cons, List.not_mem_nil, or_false, Prod.mk.injEq] at hj; have kl : ∀ (q id : Nat) (v : Value), (q, id) ∈ wayL a b c d r f → 2 ≤ q → q ≤ 7 → repA (rx cx σ N m w) (.one (.loc id 0)) v → rnL (wayL a b c d r f) fr q = id → repA x1 (.one (.loc q 0)) v := fun q id v hq h2 h7 hv he => by
      unfold repA at hv ⊢; exact rC5 (ρ := rnL (wayL a b c d r f) fr) hkp hσ (.loc q 0) v (fun z hz => by
       simp only [idsC, List.mem_singleton] at hz; subst hz; exact hin z h2 h7) (by unfold rnC; rw [he]; exact hv)
     have ki : ∀ (z : Int) (v : Value), repA (rx cx σ N m w) (.one (.int .i64 z)) v → repA x1 (.one (.int .i64 z)) v := fun z v hv => by
      unfold repA repC at hv ⊢; exact hv
     rcases hj with ⟨rfl, rfl⟩ | ⟨rfl, rfl⟩ | ⟨rfl, rfl⟩ | ⟨rfl, rfl⟩ | ⟨rfl, rfl⟩ | ⟨rfl, rfl⟩
     · exact ki _ _ k0
     · exact ki _ _ k1
     · exact kl 2 a _ (by simp [wayL]) (by decide) (by decide) k2 rfl
     · exact kl 3 b _ (by simp [wayL]) (by decide) (by decide) k3 rfl
     · exact kl 4 c _ (by simp [wayL]) (by decide) (by decide) k4 rfl
     · exact kl 5 d _ (by simp [wayL]) (by decide) (by decide) k5 rfl
 · intro _ _; refine ⟨rfl, rfl, List.nodup_nil, fun p hp => (by cases hp), fun q hq => (by simp [idsAs, idsA, idsC] at hq), fun B hB q hq => ?_, fun p hp => (by cases hp)⟩; simp only [wayO, List.mem_cons, List.not_mem_nil, or_false] at hB
   rcases hB with rfl | rfl | rfl | rfl | rfl | rfl <;> simp [idsX, idsB, fidB, idsCs, idsC] at hq
   · subst hq; rfl
   · rcases hq with rfl | rfl | rfl | rfl <;> rfl
   · subst hq; rfl
 · intro X hT hG hk hK; exact zC6 k ns ds br n tg xs M a b c d r f hP rfl X hT hG hk hK
 · rintro e w' ⟨u, rfl, _, _, hres⟩; refine ⟨u, rfl, ?_⟩; obtain ⟨σ', q1, q2, q3, q4⟩ := hres; have hu := bD6 (fr := fr) (M' := mmF ns br tg (k + 1) n.toNat M) ha hr hf hb hc hd; dsimp only at q1 q2 q3; exact ⟨σ', hu ▸ q1, hu ▸ q2, hu ▸ q3, trivial⟩
end Go.Proofs.YtabadacjbkhmkaaGreatDoor

set_option maxRecDepth 100000
set_option maxHeartbeats 8000000
namespace Go.Proofs.YtabadacjbkhmkaaGreatDoor
open Go.Ev
attribute [local go_sem] List.set_cons_succ List.set_cons_zero List.getD_cons_succ List.getD_cons_zero List.set_nil
def mm0 (n : Nat) : List (List Int) := (List.range n).map (fun _ => (List.range n).map (fun _ => (-2 : Int)))
theorem xD4 (ns : List Nd) (br : List Bool) {tg : Int} (ht : tg.toNat < ns.length) : MmOk ns br tg (mm0 ns.length) := by
 have e : ∀ i, i < ns.length → (mm0 ns.length).getD i [] = (List.range ns.length).map (fun _ => (-2 : Int)) := fun i hi => by simp [mm0, hi]
 refine ⟨by simp [mm0], fun i hi => by rw [e i hi]; simp, fun i hi => .inl (by rw [e i hi]; simp [ht])⟩
def mmR (n k : Nat) : List Int := updL (fun _ => (-2 : Int)) (fun _ => 0) n k
def mmA (n i : Nat) : List (List Int) := updL (fun _ => mmR n n) (fun _ => []) n i
theorem uD1 {n k : Nat} (h : k < n) : (mmR n k).set k (-2) = mmR n (k + 1) := jA5 h
theorem jD3 {n i : Nat} (h : i < n) : (mmA n i).set i (mmR n n) = mmA n (i + 1) := jA5 h
theorem wD0 (n : Nat) : mmA n n = mm0 n := by
 unfold mmA mmR mm0; rw [bB1, bB1]
theorem pC8 (n : Nat) : mmA n 0 = List.replicate n [] := by
 unfold mmA updL; apply List.ext_getElem (by simp); intro i h1 h2; simp
theorem uC6 (n : Nat) : mmR n 0 = List.replicate n 0 := rB7
theorem vC3 (n k : Nat) : (mmR n k).length = n := gB1 _ _ _ _
theorem rD0 (n k : Nat) : (mmA n k).length = n := gB1 _ _ _ _
def wysG (ns : List Nd) (ds : List Dv) (br : List Bool) (fr : Nat) : Heap := [(fr, .cells 35 [.row (fr + 4)]), (fr + 1, .cells 23 [.sl .bool br false]), (fr + 2, .cells 30 [.sl yNO ns false, .sl yPL ds false]), (fr + 3, .cells 76 [.fn 150 [.loc fr 0, .loc (fr + 1) 0, .loc (fr + 2) 0, .loc (fr + 3) 0]]), (fr + 4, .rowg 22 (.sl yI) 0 (fr + 5) (List.replicate ns.length []) none), (fr + 5, .fam 3 yI (mm0 ns.length))]
def wysN (ns : List Nd) (ds : List Dv) (br : List Bool) : Heap := [(0, .cells 35 [.row 36]), (1, .cells 23 [.sl .bool br false]), (2, .cells 30 [.sl yNO ns false, .sl yPL ds false]), (3, .cells 76 [.fn 150 [.loc 32 0, .loc 33 0, .loc 34 0, .loc 35 0]]), (4, .rowg 22 (.sl yI) 0 37 (List.replicate ns.length []) none), (5, .fam 3 yI (mm0 ns.length))]
def wysE (fr : Nat) : Option (List Nd) → Option (List Dv) → Option (List Bool) → Eff
 | some ns, some ds, some br => ⟨ns.length ≤ 24, .one (.fn 150 [.loc fr 0, .loc (fr + 1) 0, .loc (fr + 2) 0, .loc (fr + 3) 0]), wysG ns ds br fr, True⟩
 | _, _, _ => bad
def wysC : Ctr := fun avs _ fr => match avs with
 | [.agg [.sl t ns _, .sl u ds _], .one (.sl q br _)] => wysE fr (castTy t yNO ns) (castTy u yPL ds) (castTy q .bool br)
 | _ => bad
def con131 : RawT := ⟨wysC⟩
attribute [local go_sem] rawPost resS oldH newH wysN
theorem vC7 (ns : List Nd) (ds : List Dv) (br : List Bool) (hn24 : ns.length ≤ 24) {c : Code} (hc : Tryz.f131.body = some c) (X : Wk) (hT : X.T = tab) (hG : X.G = ⟨[], [], [(14, 11), (28, 10), (36, 10)], [], []⟩) (hk : X.ks = 3758556159)
 (hK : X.K = rawPost tab Tryz.f131.results.toList [] (fun _ : Unit => True) (fun _ => [.one (.fn 150 [.loc 32 0, .loc 33 0, .loc 34 0, .loc 35 0])]) (fun _ => []) (fun _ => wysN ns ds br)) :
 evk X c [(0, .agg [.sl yNO ns false, .sl yPL ds false]), (1, .one (.sl .bool br false))] [] 32 [] := by
 cases hc
 (simp -implicitDefEqProofs (maxSteps := 4000000) only [go_sem, bP, con131, hT, hG, hk, hK, Tryz.results131]); (try simp (disch := decide +kernel) only [drawn, true_and, and_true])
 have hlr : (List.replicate (ns.length : Int).toNat ([] : List Int)).length = ns.length := by rw [List.length_replicate]; omega
 refine fun _ => ⟨⟨by omega, by omega, by omega⟩, fun _ => ?_⟩; refine cA0 ⟨{ i : Nat // i ≤ ns.length }, 1000, fun i => [(2, .one (.loc 64 0)), (3, .one (.loc 65 0)), (5, .one (.int .i64 ns.length)), (6, .one (.loc 66 0)), (16, .one (.int .i64 ns.length)), (17, .one (.int .i64 (i.1 : Int)))], fun i => [(64, .cells 30 [.sl yNO ns false, .sl yPL ds false]), (65, .cells 23 [.sl .bool br false]), (66, .cells 35 [.row 67]), (67, .rowg 22 (.sl yI) 0 68 (List.replicate ns.length []) none), (68, .fam 3 yI (mmA ns.length i.1))], fun i => ns.length - i.1⟩ ⟨0, Nat.zero_le _⟩ ?_ ?_
 · simp only [go_sem]; simp only [pC8, hlr, Int.toNat_natCast, List.length_replicate]
   try first | rfl | (and_intros <;> first | trivial | rfl | omega)
 · rintro ⟨i, (hi : i ≤ ns.length)⟩
   (simp -implicitDefEqProofs (maxSteps := 4000000) only [go_sem, bP, con131, hT, hG, hk, hK, Tryz.results131]); (try simp (disch := decide +kernel) only [drawn, true_and, and_true])
   refine ⟨fun hlt => ?_, fun hge => ?_⟩
   · have hi' : i < ns.length := by omega
     have eii : (i : Int).toNat = i := Int.toNat_natCast i; have hAl := rD0 ns.length i; have hg0 : ∀ (r z : List Int), ((mmA ns.length i).set i r).getD i z = r := fun r z => by
      rw [gdE, List.getElem?_set_self (by omega)]; rfl
     simp only [List.length_replicate, eii, hg0, Int.toNat_natCast, ← uC6]; refine ⟨⟨by omega, by omega, by omega⟩, ⟨by omega, by omega⟩, fun _ => ⟨by first | exact ⟨rfl, by omega⟩ | exact ⟨trivial, by omega⟩, ⟨by omega, by omega⟩, fun _ => ⟨⟨by omega, by omega⟩, fun _ => ?_⟩⟩⟩; refine cA0 ⟨{ k : Nat // k ≤ ns.length }, 2000, fun k => [(2, .one (.loc 64 0)), (3, .one (.loc 65 0)), (5, .one (.int .i64 ns.length)), (6, .one (.loc 66 0)), (7, .one (.int .i64 (i : Int))), (16, .one (.int .i64 ns.length)), (17, .one (.int .i64 (i : Int))), (29, .one (.int .i64 ns.length)), (30, .one (.int .i64 (k.1 : Int)))], fun k => [(64, .cells 30 [.sl yNO ns false, .sl yPL ds false]), (65, .cells 23 [.sl .bool br false]), (66, .cells 35 [.row 67]), (67, .rowg 22 (.sl yI) 0 68 (List.replicate ns.length []) none), (68, .fam 3 yI ((mmA ns.length i).set i (mmR ns.length k.1)))], fun k => ns.length - k.1⟩ ⟨0, Nat.zero_le _⟩ ?_ ?_
     · simp only [go_sem]; simp only [vC3, List.length_replicate]
       try first | rfl | (and_intros <;> first | trivial | rfl | omega)
     · rintro ⟨k, (hk1 : k ≤ ns.length)⟩; have ekk : (k : Int).toNat = k := Int.toNat_natCast k; have hRl := vC3 ns.length k
       (simp -implicitDefEqProofs (maxSteps := 4000000) only [go_sem, bP, con131, hT, hG, hk, hK, Tryz.results131]); (try simp (disch := decide +kernel) only [drawn, true_and, and_true])
       simp only [List.length_replicate, eii, hg0, ekk]; refine ⟨fun hlt2 => ?_, fun hge2 => ?_⟩
       · have hst := uD1 (show k < ns.length by omega); simp only [hRl, List.set_set, hst]
         (repeat' with_reducible first | refine And.intro ?_ ?_ | intro _) <;> try first | with_reducible (first | assumption | omega | contradiction) | decide
         all_goals first
          | omega
          | (refine dA0 ⟨k + 1, by omega⟩ ?_ (by dsimp only; omega)
             simp only [go_sem]; rfl
             done)
       · have hst := jD3 hi'; have : k = ns.length := by omega
         subst this; rw [hst]; refine ⟨⟨by omega, by omega⟩, ?_⟩; refine dA0 ⟨i + 1, by omega⟩ ?_ (by dsimp only; omega); simp only [go_sem]; rfl
   · rw [show i = ns.length by omega, wD0]; exact ⟨(), rfl⟩
theorem oD0 {x : Rx} {t u : Ty} {xs : List t.den} {ys : List u.den} {f g : Bool} {v : Value} (h : repA x (.agg [.sl t xs f, .sl u ys g]) v) : repA x (.agg [.sl t xs false, .sl u ys false]) v := jC5 h
theorem rD1 {x : Rx} {t : Ty} {xs : List t.den} {f : Bool} {v : Value} (h : repA x (.one (.sl t xs f)) v) : repA x (.one (.sl t xs false)) v := by
 unfold repA repC at h ⊢; exact ⟨h.1, fun q => by cases q⟩
theorem c131 : CtrOk Tryz.prog 131 con131.ctr := by
 intro D gv hDS cx hcd σ N m w fr avs vs hM hfr hreps hp; show Calls _ _ _ _ _
 change (wysC avs m fr).pre at hp
 show Calls Tryz.prog 131 vs.toArray w fun e w' => ∃ v, e = .returned v ∧ Res cx σ N m w fr (wysC avs m fr) v w'; unfold wysC at hp ⊢; split at hp
 · rename_i t ns f1 u ds f2 q br f3; unfold castTy at hp ⊢; by_cases ht : t = yNO
   · by_cases hu : u = yPL
     · by_cases hq : q = .bool
       · subst ht; subst hu; subst hq; simp only [dif_pos] at hp ⊢
         change ns.length ≤ 24 at hp
         simp only [repAs] at hreps; obtain ⟨v0, r0, rfl, k0, v1, r1, rfl, k1, rfl⟩ := hreps; have k0 := oD0 k0; have k1 := rD1 k1; refine (xB0 eA0 rfl Tryz.func131 rfl 3758556159 (G := ⟨[], [], [(14, 11), (28, 10), (36, 10)], [], []⟩) (by kernel_rfl) (by decide) (hcd.1.symm ▸ hcd.2.symm ▸ EnvOk.nil.at_ hDS) hM hfr (by show 2 ≤ Tryz.f131.ntmps; decide) [] List.nodup_nil List.nodup_nil (fun p hp => (by cases hp)) [] (fun p hp => (by cases hp)) (fun p hp => (by cases hp)) [(0, .agg [.sl yNO ns false, .sl yPL ds false]), (1, .one (.sl .bool br false))] [] (fun i h => absurd rfl h) ?_ (Y := Unit) (fun _ => True) (fun _ => [.one (.fn 150 [.loc 32 0, .loc 33 0, .loc 34 0, .loc 35 0])]) (fun _ => []) (fun _ => wysN ns ds br) ?_ ?_).mono ?_
         · intro x1 hw hO hl; have hkp : Keep (rx cx σ N m w).w x1.w (rx cx σ N m w).O x1.O := keepsw (x := rx cx σ N m w) (y := x1) hw (fun b hb => hO b hb); refine ⟨fun i id h => (by cases h), fun j v hj => ?_⟩; simp only [List.mem_cons, List.not_mem_nil, or_false, Prod.mk.injEq] at hj
           rcases hj with ⟨rfl, rfl⟩ | ⟨rfl, rfl⟩
           · exact uA8 (OK := fun _ => False) (ρ := id) hkp (fun k hk => hk.elim) _ _ (fun k hk => by simp [idsA, idsCs, idsC] at hk) k0
           · exact uA8 (OK := fun _ => False) (ρ := id) hkp (fun k hk => hk.elim) _ _ (fun k hk => by simp [idsA, idsCs, idsC] at hk) k1
         · intro _ _; refine ⟨rfl, rfl, by show [0, 1, 2, 3, 4, 5].Nodup; decide, fun p hp => ?_, fun k hk => ?_, fun b hb => (by cases hb), fun p hp => ?_⟩
           · simp only [wysN, List.mem_cons, List.not_mem_nil, or_false] at hp
             rcases hp with rfl | rfl | rfl | rfl | rfl | rfl <;> (dsimp only; decide)
           · simp [idsAs, idsA, idsCs, idsC] at hk
             rcases hk with rfl | rfl | rfl | rfl <;> rfl
           · simp only [wysN, List.mem_cons, List.not_mem_nil, or_false] at hp
             rcases hp with rfl | rfl | rfl | rfl | rfl | rfl <;> (intro k hk; simp [idsX, idsB, fidB, idsCs, idsC] at hk)
             · subst hk; rfl
             · rcases hk with rfl | rfl | rfl | rfl <;> rfl
             · subst hk; rfl
         · intro X hT hG hk hK; exact vC7 ns ds br hp rfl X hT hG hk hK
         · rintro e w' ⟨u, rfl, _, _, hres⟩; exact ⟨u, rfl, hres⟩
       · simp only [dif_pos ht, dif_pos hu, dif_neg hq] at hp; exact hp.elim
     · simp only [dif_pos ht, dif_neg hu] at hp; exact hp.elim
   · simp only [dif_neg ht] at hp; exact hp.elim
 · exact hp.elim
theorem cWays : ∀ k, CtrOk Tryz.prog 150 (conWay k).ctr
 | 0 => zWay
 | k + 1 => sWay k (cWays k)
def conWay24 : RawT := ⟨wayC 24⟩
theorem cWay24 : CtrOk Tryz.prog 150 conWay24.ctr := cWays 24
attribute [local go_sem] wayC wayH wayG wayF wayE wysC wysE wysG
theorem kB8 {len : Int} {ok : Int → Bool} {d : Int → Int} (h : ∀ x, ok x = true → 0 ≤ d x) : ∀ (l : List Int) (b : Int), (b < 0 ∨ len ≤ b) → bestE len ok d l b < 0 ∨ len ≤ bestE len ok d l b
 | [], b, hb => hb
 | x :: l, b, hb => by
   unfold bestE; refine kB8 h l _ ?_; split
   · rename_i hc; have := h x hc.1; omega
   · exact hb
theorem sB1 {ds : List Dv} {ns : List Nd} (hg : GoodL (ns, ds)) {br : List Bool} {tg : Int} {n : Nat} (hn : n < ns.length) (hne : ¬ (n : Int) = tg) : dstV ns br tg n < 0 ∨ (ns.getD n nd0).2.2.1 ≤ dstV ns br tg n := by
 rw [bB0 hg hn]; split
 · left; decide
 · try rw [if_neg hne]
   refine kB8 (fun x hx => ?_) _ _ (.inl (by decide)); rw [Bool.and_eq_true, decide_eq_true_eq] at hx; exact hx.2
def con107 : Con := { ps := [.d true yLY, .d false (.sl .bool), .d false yI, .d false yI], rs := [.d false yI], pre := fun (x : Ly × List Bool × Int × Int × Unit) => GoodL x.1, out := fun (x : Ly × List Bool × Int × Int × Unit) => (extV x.1.1 x.2.1 x.2.2.1 x.2.2.2.1, ()), nw := id }
theorem c107 : CtrOk Tryz.prog 107 con107.ctr :=
 aA0 eA0 (eC c130 has130 (eC c131 has131 (eC c132 has132 (eC cWay24 has150 eN)))) rfl Tryz.func107 rfl con107 1180596125347839229727 (by kernel_rfl) (by decide) (by decide) rfl (by decide) rfl (by
  rintro ⟨⟨(ns : List Nd), (ds : List Dv)⟩, (br : List Bool), (fr : Int), (tg : Int), _⟩ hpre hwf X hT hG hk hK; have hg : GoodL (ns, ds) := hpre
  (simp -implicitDefEqProofs (maxSteps := 4000000) only [go_sem, bP, con107, con130, con131, con132, conWay24, hT, hG, hk, hK, Tryz.results107] at hwf ⊢)
  clear hwf; have hn24 : ns.length ≤ 24 := hg.n24; have hbd := iC2 hg br tg; have hev : extV ns br fr tg = if askV ns fr tg = true ∧ 0 ≤ dstV ns br tg fr ∧ fr ≠ tg then idxV (exX ns br fr tg) (ns.getD fr.toNat nd0).2.2.2.2 else -1 := rfl
  refine ⟨hg, fun h => ?_, fun ⟨ha, hne⟩ => ?_⟩
  · rw [hev, if_neg]; rintro ⟨h1, _, h2⟩; exact h.elim (fun e => by rw [e] at h1; cases h1) h2
  · have hask := ha; unfold askV at hask; simp only [Bool.and_eq_true, decide_eq_true_eq, Bool.not_eq_true'] at hask; obtain ⟨⟨f1, f2⟩, ⟨t1, t2⟩, t3⟩ := hask; obtain ⟨n, rfl⟩ : ∃ n : Nat, fr = n := ⟨fr.toNat, by omega⟩; have hn : n < ns.length := by omega
    have enn : (n : Int).toNat = n := Int.toNat_natCast n; obtain ⟨y, ey⟩ : ∃ y, ns.getD n nd0 = y := ⟨_, rfl⟩; have ek : ∀ z, ns.getD n z = y := fun z => by rw [← ey]; simp [hn]
    have hl8 := len8 hg n; have hbn := hbd n; have hbest := sB1 hg (br := br) (tg := tg) hn hne; rw [ey] at hl8 hbest; rw [enn, ey, ha] at hev; have hm0 := xD4 ns br (tg := tg) (by omega); have hPw : ∀ (x : Int) (N : List (List Int)), 0 ≤ x → x < ns.length → MmOk ns br tg N → wayP 24 ns ds br x tg ns.length N := fun x N h0 h1 hN => ⟨hg, hN, ⟨h0, h1⟩, ⟨t1, t2⟩, t3, rfl, by omega⟩; have hfd : ∀ x ∈ y.2.2.2.2, 0 ≤ x ∧ x < ns.length := fun x hx => by
     by_cases e : x = (n : Int)
     · exact ⟨by omega, by omega⟩
     · have := hg.fwd hn (by rw [ey]; exact hx) e; exact ⟨by omega, by omega⟩
    simp only [enn, ek, List.length_replicate]; refine ⟨hn24, hPw _ _ (by omega) (by omega) hm0, ⟨by omega, by omega⟩, fun _ _ _ => ?_⟩; refine cA0 ⟨{ q : Nat × List (List Int) // q.1 ≤ y.2.2.2.2.length ∧ MmOk ns br tg q.2 ∧ ∀ j (h : j < y.2.2.2.2.length), j < q.1 → 0 ≤ dstV ns br tg n → exX ns br n tg y.2.2.2.2[j] = false }, 1000, fun q => [(2, .one (.int .i64 n)), (3, .one (.int .i64 tg)), (4, .one (.loc 64 0)), (9, .one (.fn 150 [.loc 65 0, .loc 66 0, .loc 67 0, .loc 68 0])), (10, .one (.int .i64 (dstV ns br tg n))), (36, .one (.sl yI y.2.2.2.2 false)), (37, .one (.int .i64 y.2.2.2.2.length)), (38, .one (.int .i64 (q.1.1 : Int)))], fun q => [(64, .cells 30 [.sl yNO ns false, .sl yPL ds false]), (65, .cells 35 [.row 69]), (66, .cells 23 [.sl .bool br false]), (67, .cells 30 [.sl yNO ns false, .sl yPL ds false]), (68, .cells 76 [.fn 150 [.loc 65 0, .loc 66 0, .loc 67 0, .loc 68 0]]), (69, .rowg 22 (.sl yI) 0 70 (List.replicate ns.length []) none), (70, .fam 3 yI q.1.2)], fun q => y.2.2.2.2.length - q.1.1⟩ ⟨(0, mmF ns br tg 24 n (mm0 ns.length)), Nat.zero_le _, eB9 hg (by omega) _ _ _ hn hm0, fun j h hj => absurd hj (Nat.not_lt_zero _)⟩ ?_ ?_
    · simp only [go_sem]; rfl
    · rintro ⟨⟨k, N⟩, (hk1 : k ≤ y.2.2.2.2.length), (hN : MmOk ns br tg N), (hz : ∀ j (h : j < y.2.2.2.2.length), j < k → 0 ≤ dstV ns br tg n → exX ns br n tg y.2.2.2.2[j] = false)⟩
      (simp -implicitDefEqProofs (maxSteps := 4000000) only [go_sem, bP, con107, con130, con131, con132, conWay24, hT, hG, hk, hK, Tryz.results107])
      simp only [enn, ek, List.length_replicate]; have ekk : (k : Int).toNat = k := Int.toNat_natCast k; refine ⟨fun hlt => ?_, fun hge => ?_⟩
      · have hk2 : k < y.2.2.2.2.length := by omega
        have ejk : ∀ z, y.2.2.2.2.getD k z = y.2.2.2.2[k] := fun z => by simp [hk2]
        have hfx := hfd _ (List.getElem_mem hk2); have hat := fun h (h0 : 0 ≤ dstV ns br tg n) => pA1 (p := exX ns br n tg) hk2 h (fun j hj => hz j (by omega) hj h0); have hnx : (0 ≤ dstV ns br tg n → exX ns br n tg y.2.2.2.2[k] = false) → ∀ j (h : j < y.2.2.2.2.length), j < k + 1 → 0 ≤ dstV ns br tg n → exX ns br n tg y.2.2.2.2[j] = false := fun h j hj hjk h0 => by
         by_cases e : j = k
         · subst e; exact h h0
         · exact hz j hj (by omega) h0
        simp only [ekk, ejk]; generalize y.2.2.2.2[k] = x at *; have hbx := hbd x; have hxe : exX ns br n tg x = (goX ns tg n x && decide (dstV ns br tg x = dstV ns br tg n - y.2.2.1)) := by
         unfold exX goX; rw [enn, ey]; cases decide (x ≠ (n : Int)) <;> cases decide (dstV ns br tg x = dstV ns br tg n - y.2.2.1) <;> cases (decide (x = tg) || strN (ns.getD x.toNat nd0).2.1) <;> rfl
        have hNx : MmOk ns br tg (mmF ns br tg 24 x.toNat N) := eB9 hg (by omega) 24 x.toNat N (by omega) hN
        (repeat' with_reducible first | refine And.intro ?_ ?_ | intro _) <;> try first | with_reducible (first | assumption | omega | contradiction) | decide
        all_goals first
         | omega
         | exact hPw _ _ (by omega) (by omega) hN
         | (obtain ⟨_, q⟩ : ¬ dstV ns br tg n < 0 ∧ goX ns tg n x = true := by assumption
            rw [hev, if_pos ⟨rfl, by omega, hne⟩, hat (by rw [hxe, q, decide_eq_true (by omega)]; rfl) (by omega)]
            done)
         | (obtain ⟨_, q⟩ : ¬ dstV ns br tg n < 0 ∧ goX ns tg n x = true := by assumption
            refine dA0 ⟨(k + 1, mmF ns br tg 24 x.toNat N), by dsimp only; omega, hNx, hnx (fun h0 => by rw [hxe, q, decide_eq_false (by omega)]; rfl)⟩ ?_ (by dsimp only; omega); simp only [go_sem]
            try rfl
            done)
         | (have q : dstV ns br tg n < 0 ∨ goX ns tg n x = false := by assumption
            refine dA0 ⟨(k + 1, N), by dsimp only; omega, hN, hnx (fun h0 => by rw [hxe, q.resolve_left (by omega)]; rfl)⟩ ?_ (by dsimp only; omega); simp only [go_sem]
            try rfl
            done)
      · rw [hev]; by_cases h0 : 0 ≤ dstV ns br tg n
        · rw [if_pos ⟨rfl, h0, hne⟩, hA1 fun j hj => hz j hj (by omega) h0]
        · rw [if_neg (fun q => h0 q.2.1)])
end Go.Proofs.YtabadacjbkhmkaaGreatDoor
