/- Part. -/
import Derived.Test.YtabadacjbkhmkaaGreatDoorEvNstToB
import Derived.Test.YtabadacjbkhmkaaGreatDoorEvRwToO
set_option linter.all false
namespace Go.Ev
def nstP (fr i n : Nat) (E : Eff) : Eff := match E.r, E.u with
 | .one (.row a), [(b, .row e t ys)] => if a = fr ∧ b = fr ∧ flat t = true then ⟨i < n ∧ E.pre, .one (.row fr), [(fr, .row e t ys)], E.asm⟩ else bad
 | _, _ => bad
def nstF (C : Ctr) (fr i : Nat) (r : List AV) : Blk → Eff
 | .fam e u xss => nstP fr i xss.length (C (.one (.sl u (xss.getD i []) false) :: r) (fun _ => .dead) fr)
 | _ => bad
def nstO (C : Ctr) : Ctr := fun avs m fr => match avs with
 | .one (.nst fid i) :: r => nstF C fr i r (m fid)
 | avs => C avs m fr
theorem iC1 {fr i n a b : Nat} {pr q : Prop} {e : TypeId} {t : Ty} {ys : List t.den} : nstP fr i n ⟨pr, .one (.row a), [(b, .row e t ys)], q⟩ = if a = fr ∧ b = fr ∧ flat t = true then ⟨i < n ∧ pr, .one (.row fr), [(fr, .row e t ys)], q⟩ else bad := rfl
section
variable {cx : Cx} {σ : Nat → Value} {N : Nat → Prop} {m : Mem} {w : World} {fr : Nat} {P : Program}
theorem iC0 {f : FuncId} {C : Ctr} (hC : CtrOk P f C) : CtrOk P f (nstO C) := by
 intro D gv hD cx hcx σ N m w fr avs vs h hfr hr hp; unfold nstO at hp ⊢; split at hp
 · rename_i fid i r; unfold nstF at hp ⊢; split at hp
   · rename_i e u xss hf; unfold nstP at hp ⊢; split at hp
     · rename_i a b e1 t1 ys hEr hEu; split at hp
       · rename_i hc; rw [if_pos hc]; obtain ⟨ha0, hb0, hfl⟩ := hc; rw [ha0] at hEr; rw [hb0] at hEu; obtain ⟨hi, hp⟩ := hp; unfold repAs at hr; obtain ⟨v, vs', rfl, g1, g2⟩ := hr; unfold repA repC at g1; obtain ⟨n1, f1, ws, c1, c3⟩ := g1; have hblk := h.blk fid; rw [hf] at hblk; obtain ⟨f2, ws2, c4, c2⟩ := hblk; simp only [rx] at c1 c4; rw [c1] at c4; cases c4; have hxi : xss[i]? = some (xss.getD i []) := by rw [List.getD_eq_getElem?_getD, List.getElem?_eq_getElem hi]; rfl
         obtain ⟨r1, fl, r2, r3⟩ := c2.row i _ v hxi c3; have hk := pB9 h; have hro : ro w (Owned (cx.bare w) σ (fun _ => .dead)) (.sl u) (xss.getD i []) [v] :=
          nB3 r2 (fA0 (hA0 hk.k u) _ _ r3) (fun g _ h => h.elim id (fun ⟨_, h, _⟩ => by cases h))
         have hargs : repAs (rx (cx.bare w) σ N (fun _ => .dead) w) (.one (.sl u (xss.getD i []) false) :: r) (v :: vs') := by
          unfold repAs; refine ⟨v, vs', rfl, ?_, kA3 hk _ _ g2⟩; unfold repA repC; exact ⟨hro, fun h => by cases h⟩
         refine (hC D gv hD (cx.bare w) hcx σ N (fun _ => .dead) w _ _ _ (rC3 h) hfr hargs hp).mono fun e w' he => ?_; obtain ⟨v', rfl, σ', q1, q2, q3, q4⟩ := he; have q1 := q1; rw [hEr] at q3; rw [hEu] at q1; have m1 : updM (fun _ => Blk.dead) [(fr, .row e1 t1 ys)] fr = .row e1 t1 ys := by simp [updM]
         have hb1 := q1.blk fr; rw [m1] at hb1; obtain ⟨n0, fl0, rfl, k1, k3⟩ := hb1; simp only [rx] at k1 k3; unfold repA repC at q3; have hv' : v' = σ' fr := q3.2; have ho : own (updM (fun _ => Blk.dead) [(fr, .row e1 t1 ys)] fr) = true := by rw [m1]; rfl
         have hsl : ∃ p n c, v' = .slice p n c := by
          rw [hv']
          rcases k1.2 with ⟨_, p, q⟩ | ⟨g, cap, cur, _, q, _⟩
          · exact ⟨_, _, _, q⟩
          · exact ⟨_, _, _, q⟩
         have hlow : ∀ b, hb v' b → w.heap.size ≤ b := fun b hbb => by
          rcases q1.low fr b ho (by rw [← hv']; exact hbb) with h1 | h1
          · exact h1
          · exact h1.elim
         have he := q1.evo; have hN : N fr := hfr fr (Nat.le_refl _) (by omega)
         let σ2 : Nat → Value := fun i => if fr = i then v' else σ i
         let m2 : Mem := fun i => if fr = i then .row e1 t1 ys else m i
         have s1 : σ2 fr = v' := by simp [σ2]
         have s2 : ∀ i, i ≠ fr → σ2 i = σ i := fun i hi => by simp [σ2, Ne.symm hi]
         have m3 : m2 fr = .row e1 t1 ys := by simp [m2]
         have m4 : ∀ i, i ≠ fr → m2 i = m i := fun i hi => by simp [m2, Ne.symm hi]
         obtain ⟨p1, p2⟩ := h.stepD (σ' := σ2) (N' := Nx N fr) (m' := m2) (w' := w') (fun i => i = fr) (fun _ h => h.1)
          (fun i hn => by rw [m4 i (fun e => hn.2 ⟨by omega, by omega⟩)]; exact h.fresh i hn.1) (fun i hi => ⟨m4 i hi, s2 i hi⟩) (fun i hi => s2 i (fun e => hi (e ▸ hN)))
          (fun b hb _ => he.block b hb (fun h => h)) ⟨he.size, he.drawn⟩ he.os he.tape he.output
          (fun i b hi _ hbb => by subst hi; rw [s1] at hbb; exact .inl (hlow b hbb)) (fun i i' b hi hi' _ _ _ _ => hi.trans hi'.symm)
          (fun i hi => by subst hi; rw [s1, hv']; exact q1.hone _)
          (fun hk i hi => by
            subst hi; rw [m3]; exact ⟨_, fl0, rfl, by simp only [rx]; rw [s1, hv']; exact k1, fA0 (fun x c hx => sB0 t1 x c hfl hx) _ _ k3⟩)
         refine ⟨v', rfl, σ2, p1, p2, ?_, q4⟩; unfold repA repC; exact ⟨fun k => k.2 ⟨by omega, by omega⟩, s1.symm⟩
       · exact hp.elim
     · exact hp.elim
   · exact hp.elim
 · exact hC D gv hD cx hcx σ N m w fr _ vs h hfr hr hp
end
attribute [go_sem] iC1 nstF
end Go.Ev

set_option maxRecDepth 100000
set_option maxHeartbeats 8000000
namespace Go.Proofs.YtabadacjbkhmkaaGreatDoor
open Go.Ev
attribute [local go_sem] List.set_cons_succ List.set_cons_zero List.getD_cons_succ List.getD_cons_zero List.set_nil
attribute [local go_sem] cpyC cpyE cpyG nstO iC1 nstF
def updL {α : Type} (g h : Nat → α) (n m : Nat) : List α := (List.range n).map (fun i => if i < m then g i else h i)
theorem fB2 {α : Type} (g h : Nat → α) (n m : Nat) : (updL g h n m).length = n := by simp [updL]
theorem kC5 {α : Type} {g h : Nat → α} {n m i : Nat} (hi : i < n) (d : α) : (updL g h n m).getD i d = if i < m then g i else h i := by
 simp [updL, hi]
theorem mA5 {α : Type} {g h : Nat → α} {n m : Nat} (hm : m < n) : (updL g h n m).set m (g m) = updL g h n (m + 1) := by
 apply List.ext_getElem (by simp [updL]); intro i h1 h2; rw [List.getElem_set]; by_cases e : m = i
 · subst e; simp [updL]
 · rw [if_neg e]; simp only [updL, List.getElem_map, List.getElem_range]; by_cases q : i < m
   · rw [if_pos q, if_pos (by omega)]
   · rw [if_neg q, if_neg (by omega)]
theorem kA7 {α : Type} {g h : Nat → α} {n m : Nat} (e : g m = h m) : updL g h n (m + 1) = updL g h n m := by
 unfold updL; apply List.map_congr_left; intro i _; by_cases q : i = m
 · subst q; rw [if_pos (by omega), if_neg (by omega), e]
 · by_cases r : i < m
   · rw [if_pos (by omega), if_pos r]
   · rw [if_neg (by omega), if_neg r]
theorem dB2 {α : Type} (g h : Nat → α) (n : Nat) : updL g h n n = (List.range n).map g := by
 unfold updL; apply List.map_congr_left; intro i hi; rw [if_pos (List.mem_range.1 hi)]
theorem jB4 {α : Type} {g : Nat → α} {l : List α} {n : Nat} (d : α) (h : l.length = n) : updL g (fun i => l.getD i d) n 0 = l := by
 subst h; apply List.ext_getElem (by simp [updL]); intro i h1 h2; simp [updL, h2]
theorem nB6 {g : Nat → Int} {n : Nat} : updL g (fun _ => 0) n 0 = List.replicate n 0 := by
 apply List.ext_getElem (by simp [updL]); intro i h1 h2; simp [updL]
def sl1 (ns : List Nd) (p : Pl) (f : List Dv) (fl : Fl) (i : Nat) : List Int :=
 if strN (ns.getD i nd0).2.1 = true then (advV (p.1.getD i []) (atV ns f i) (decide (0 ≤ fl.1.getD i 0))).1 else p.1.getD i []
def bn1 (ns : List Nd) (p : Pl) (c : List Int) (fl : Fl) (i : Nat) : List Int :=
 if strN (ns.getD i nd0).2.1 = false ∧ 0 ≤ fl.1.getD i 0 then othF (p.2.getD i []) (c.getD i 0) else p.2.getD i []
def leftV (ns : List Nd) (p : Pl) (c : List Int) (f : List Dv) (fl : Fl) (i : Nat) : Int :=
 if strN (ns.getD i nd0).2.1 = true then (advV (p.1.getD i []) (atV ns f i) (decide (0 ≤ fl.1.getD i 0))).2 else if 0 ≤ fl.1.getD i 0 then c.getD i 0 else 0
def toV (ns : List Nd) (fl : Fl) (n : Nat) : Int := ((ns.getD n nd0).2.2.2.2).getD (fl.1.getD n 0).toNat 0
abbrev St2 := List (List Int) × List (List Int) × List Dv
def st2 (ns : List Nd) (fl : Fl) (L : Nat → Int) (s : St2) (n : Nat) : St2 :=
 if L n = 0 then s
 else ((if strN (ns.getD (toV ns fl n).toNat nd0).2.1 = true then s.1.set (toV ns fl n).toNat ((s.1.getD (toV ns fl n).toNat []).set 0 (L n)) else s.1),
  (if strN (ns.getD (toV ns fl n).toNat nd0).2.1 = true then s.2.1 else s.2.1.set (toV ns fl n).toNat (putV (s.2.1.getD (toV ns fl n).toNat []) (L n))),
  (if toV ns fl n ≠ n then s.2.2 ++ [(L n, (n : Int), toV ns fl n)] else s.2.2))
def stI (ns : List Nd) (fl : Fl) (L : Nat → Int) (s : St2) : Nat → St2
 | 0 => s
 | n + 1 => st2 ns fl L (stI ns fl L s n) n
def stepF (ns : List Nd) (p : Pl) (c : List Int) (f : List Dv) (fl : Fl) : St2 :=
 stI ns fl (leftV ns p c f fl) ((List.range ns.length).map (sl1 ns p f fl), (List.range ns.length).map (bn1 ns p c fl), []) ns.length
def stepV (ns : List Nd) (p : Pl) (c : List Int) (f : List Dv) : St2 := stepF ns p c f (flowV ns p c f)
def LvOk (ns : List Nd) (p : Pl) (c : List Int) (f : List Dv) (lv : List Int) : Prop :=
 ∀ k, k < ns.length → lv.getD k 0 = -1 ∨ (lastV ns p c f k ≠ 0 ∧ (lv.getD k 0 = wanV ns c k ∨ ((ns.getD k nd0).2.1 = 5 ∧ lv.getD k 0 = 0)))
theorem LvOk.set {ns : List Nd} {p : Pl} {c : List Int} {f : List Dv} {lv : List Int} (h : LvOk ns p c f lv) {k : Nat} {v : Int} (hk : k < lv.length) (hv : lastV ns p c f k ≠ 0 ∧ (v = wanV ns c k ∨ ((ns.getD k nd0).2.1 = 5 ∧ v = 0))) : LvOk ns p c f (lv.set k v) := by
 intro j hj; by_cases e : j = k
 · subst e; right; rw [show (lv.set j v).getD j 0 = v by simp [hk]]; exact hv
 · rw [getD_set_ne e]; exact h j hj
theorem fC0 {ns : List Nd} {p : Pl} {c : List Int} {f : List Dv} {n : Nat} {st : Bool} : ∀ (d k : Nat) (s : Fl), k + d ≤ s.1.length → LvOk ns p c f s.1 → LvOk ns p c f (flR (goV ns p c f n) (fun k => wanV ns c k) st n d k s).1 ∧ (flR (goV ns p c f n) (fun k => wanV ns c k) st n d k s).1.length = s.1.length
 | 0, k, s, _, h => ⟨h, rfl⟩
 | d + 1, k, s, hk, h => by
   unfold flR; by_cases hg : goV ns p c f n k = true
   · rw [if_pos hg]; have hl : lastV ns p c f k ≠ 0 := by
      unfold goV at hg; rw [Bool.and_eq_true, Bool.and_eq_true, decide_eq_true_eq, decide_eq_true_eq] at hg; exact hg.2.1
     have h2 : LvOk ns p c f (s.1.set k (wanV ns c k)) := h.set (by omega) ⟨hl, .inl rfl⟩; by_cases hs : st = true
     · rw [if_pos hs]; exact ⟨h2, List.length_set⟩
     · rw [if_neg hs]; have := fC0 (n := n) (st := st) d (k + 1) (s.1.set k (wanV ns c k), s.2) (by dsimp only; rw [List.length_set]; omega) h2; exact ⟨this.1, this.2.trans List.length_set⟩
   · rw [if_neg hg]; exact fC0 d (k + 1) s (by omega) h
theorem eC8 {ns : List Nd} {p : Pl} {c : List Int} {f : List Dv} : ∀ (n : Nat) (s : Fl), n ≤ ns.length → s.1.length = ns.length → LvOk ns p c f s.1 → LvOk ns p c f (flO ns p c f n s).1 ∧ (flO ns p c f n s).1.length = ns.length
 | 0, s, _, hl, h => ⟨h, hl⟩
 | n + 1, s, hn, hl, h => by
   unfold flO; have h1 : LvOk ns p c f (flS ns p c f n s.1) ∧ (flS ns p c f n s.1).length = ns.length := by
    refine ⟨?_, (sC8 _ _ _ _ _ _).trans hl⟩; unfold flS; split
    · rename_i hc; exact h.set (by omega) ⟨hc.1.1.2, .inr ⟨hc.1.1.1, rfl⟩⟩
    · exact h
   have h2 : LvOk ns p c f (flN ns p c f n s).1 ∧ (flN ns p c f n s).1.length = ns.length := by
    unfold flN; split
    · have := fC0 (n := n) (st := strN (ns.getD n nd0).2.1) ns.length 0 (flS ns p c f n s.1, s.2) (by dsimp only; omega) h1.1; exact ⟨this.1, this.2.trans h1.2⟩
    · exact h1
   exact eC8 n _ (by omega) h2.2 h2.1
theorem dB8 (ns : List Nd) (p : Pl) (c : List Int) (f : List Dv) : LvOk ns p c f (flowV ns p c f).1 ∧ (flowV ns p c f).1.length = ns.length := by
 refine eC8 _ _ (Nat.le_refl _) (by simp) (fun k hk => .inl ?_); simp [hk]
theorem nA5 (s f : List Int) : ∀ k, (advI s f false k).2 = 0
 | 0 => rfl
 | k + 1 => by
   unfold advI; split
   · exact nA5 s f k
   · split
     · exact nA5 s f k
     · rw [if_neg (fun h => by cases h.1)]; exact nA5 s f k
theorem vC6 {l : List Int} {i : Nat} (h : i < l.length) (a b : Int) : l.getD i a = l.getD i b := by simp [h]
theorem getD_some {l : List Int} {i : Nat} (h : i < l.length) : l[i]? = some (l.getD i 0) := by simp [h]
theorem tD3 {ds : List Dv} {ns : List Nd} (hg : GoodL (ns, ds)) {p : Pl} {c : List Int} {f : List Dv} (hp : Poss ns c f) {k : Nat} (hk : k < ns.length) (h : leftV ns p c f (flowV ns p c f) k ≠ 0) :
 (0 ≤ (flowV ns p c f).1.getD k 0 ∧ (flowV ns p c f).1.getD k 0 < ((ns.getD k nd0).2.2.2.2).length) ∧ 0 ≤ toV ns (flowV ns p c f) k ∧ toV ns (flowV ns p c f) k < ns.length := by
 have h0 : 0 ≤ (flowV ns p c f).1.getD k 0 := by
  unfold leftV at h; split at h
  · apply Classical.byContradiction; intro hn; rw [show decide (0 ≤ (flowV ns p c f).1.getD k 0) = false from decide_eq_false hn] at h; exact h (nA5 _ _ _)
  · split at h
    · assumption
    · exact absurd rfl h
 have hnd := hg.nd k hk; have hex := hnd.ex; have h1 : (flowV ns p c f).1.getD k 0 < ((ns.getD k nd0).2.2.2.2).length := by
  rcases (dB8 ns p c f).1 k hk with h1 | ⟨h1, h2 | ⟨h2, h3⟩⟩
  · omega
  · rw [h2]; exact (kC8 hg hp hk h1).2
  · rw [h3]; dsimp only at hex; rw [hex, h2]; decide
 refine ⟨⟨h0, h1⟩, ?_⟩; have hlt : ((flowV ns p c f).1.getD k 0).toNat < ((ns.getD k nd0).2.2.2.2).length := by omega
 have hfw := hnd.fw ((flowV ns p c f).1.getD k 0).toNat (toV ns (flowV ns p c f) k) (by
  unfold toV; exact getD_some hlt)
 dsimp only at hfw; omega
structure StInv (N K : Nat) (s0 : List (List Int)) (n : Nat) (S : St2) : Prop where
 a : S.1.length = N
 b : S.2.1.length = N
 c : ∀ i, (S.1.getD i []).length = (s0.getD i []).length
 d : ∀ b ∈ S.2.1, b.length ≤ K + n
 e : S.2.2.length ≤ n
theorem jB6 {ns : List Nd} {fl : Fl} {L : Nat → Int} {K : Nat} {s : St2} (ht : ∀ k, k < ns.length → L k ≠ 0 → 0 ≤ toV ns fl k ∧ toV ns fl k < ns.length) (h0 : StInv ns.length K s.1 0 s) : ∀ n, n ≤ ns.length → StInv ns.length K s.1 n (stI ns fl L s n)
 | 0, _ => h0
 | n + 1, hn => by
   have ih := jB6 ht h0 n (by omega); unfold stI st2; split
   · exact ⟨ih.a, ih.b, ih.c, fun b hb => Nat.le_trans (ih.d b hb) (by omega), Nat.le_trans ih.e (by omega)⟩
   · rename_i hL; have htn := ht n (by omega) hL; generalize stI ns fl L s n = S at *; refine ⟨?_, ?_, fun i => ?_, fun b hb => ?_, ?_⟩
     · dsimp only; split
       · rw [List.length_set]; exact ih.a
       · exact ih.a
     · dsimp only; split
       · exact ih.b
       · rw [List.length_set]; exact ih.b
     · dsimp only; split
       · by_cases e : i = (toV ns fl n).toNat
         · subst e; rw [show (S.1.set (toV ns fl n).toNat ((S.1.getD (toV ns fl n).toNat []).set 0 (L n))).getD (toV ns fl n).toNat [] = (S.1.getD (toV ns fl n).toNat []).set 0 (L n) by
            have := ih.a; simp [show (toV ns fl n).toNat < S.1.length by omega], List.length_set]
           exact ih.c _
         · rw [getD_set_ne e]; exact ih.c i
       · exact ih.c i
     · dsimp only at hb; split at hb
       · exact Nat.le_trans (ih.d b hb) (by omega)
       · rcases List.mem_or_eq_of_mem_set hb with hb | rfl
         · exact Nat.le_trans (ih.d b hb) (by omega)
         · rw [xB6]; have hbn := ih.b; have := ih.d (S.2.1.getD (toV ns fl n).toNat []) (by
            rw [gdE, List.getElem?_eq_getElem (show (toV ns fl n).toNat < S.2.1.length by omega)]; exact List.getElem_mem _)
           omega
     · have := ih.e; dsimp only; split
       · rw [List.length_append, List.length_singleton]; omega
       · omega
def BinK (K : Nat) (p : Pl) : Prop := ∀ b ∈ p.2, b.length ≤ K
theorem BinK.B {K : Nat} {p : Pl} (h : BinK K p) (hK : K ≤ 1000000) : BinB p := fun b hb => Nat.le_trans (h b hb) hK
def conDropN : RawT := ⟨nstO con46.ctr⟩
theorem cDropN : CtrOk Tryz.prog 46 conDropN.ctr := iC0 c46
def conPutN : RawT := ⟨nstO con47.ctr⟩
theorem cPutN : CtrOk Tryz.prog 47 conPutN.ctr := iC0 c47
attribute [local go_sem] conDropN conPutN con46 con47
def con16 : Con := { ps := [.d true yLY, .d true yP2, .d false (.sl yI), .d false (.sl yPL)], rs := [.d true yP2, .d false (.sl yPL), .d false yI], pre := fun (x : Ly × Pl × List Int × List Dv × Unit) => GoodL x.1 ∧ FitP x.1.1 x.2.1 ∧ BinK 900000 x.2.1 ∧ Poss x.1.1 x.2.2.1 x.2.2.2.1, out := fun (x : Ly × Pl × List Int × List Dv × Unit) => (((stepV x.1.1 x.2.1 x.2.2.1 x.2.2.2.1).1, (stepV x.1.1 x.2.1 x.2.2.1 x.2.2.2.1).2.1), (stepV x.1.1 x.2.1 x.2.2.1 x.2.2.2.1).2.2, 0, ()), nw := id }
theorem c16 : CtrOk Tryz.prog 16 con16.ctr :=
 aA0 (G := ⟨[(23, con23.ctr), (44, con44.ctr), (45, con45.ctr), (42, con42.ctr), (47, conPutN.ctr), (46, conDropN.ctr), (43, con43.ctr)], [], [(97, 10), (140, 10), (153, 10), (173, 11)], [], []⟩) eA0 (EnvOk.cons c23 has23 (EnvOk.cons c44 has44 (EnvOk.cons c45 has45 (EnvOk.cons c42 has42 (EnvOk.cons cPutN has47 (EnvOk.cons cDropN has46 (EnvOk.cons c43 has43 EnvOk.nil))))))) rfl Tryz.func16 rfl con16 5846006592879796501588289426928116443632613457727 (by kernel_rfl) (by decide) (by decide) rfl (by decide) rfl (by
  rintro ⟨⟨(ns : List Nd), (ds : List Dv)⟩, ⟨(sl : List (List Int)), (bn : List (List Int))⟩, (c : List Int), (f : List Dv), _⟩ hpre hwf X hT hG hk hK; obtain ⟨hg, hp, hbk, hpo⟩ : GoodL (ns, ds) ∧ FitP ns (sl, bn) ∧ BinK 900000 (sl, bn) ∧ Poss ns c f := hpre; have hcp := hp.cpy hg (hbk.B (by decide))
  (simp -implicitDefEqProofs (maxSteps := 4000000) only [go_sem, bP, con16, con23, con44, con45, con42, conPutN, conDropN, con43, hT, hG, hk, hK, Tryz.results16] at hwf ⊢); (try simp (disch := decide +kernel) only [drawn, true_and, and_true])
  clear hwf; have hn24 : ns.length ≤ 24 := hg.n24; have hsl : sl.length = ns.length := hp.sl; have hbl : bn.length = ns.length := hp.bl; have hcl := hpo.len; have hLv := (dB8 ns (sl, bn) c f).2; have hto := fun k (hk : k < ns.length) h => tD3 hg hpo (p := (sl, bn)) hk h; obtain ⟨fl, hfl⟩ : ∃ fl, flowV ns (sl, bn) c f = fl := ⟨_, rfl⟩; have hsv : stepV ns (sl, bn) c f = stepF ns (sl, bn) c f fl := by unfold stepV; rw [hfl]
  rw [hfl] at hLv hto; simp only [hfl, hsv]; refine ⟨⟨hg, hp, hpo⟩, fun _ => ⟨fun h => h.elim, hcp, fun _ => ⟨⟨by omega, by omega, by omega⟩, ?_⟩⟩⟩; refine cA0 ⟨{ n : Nat // n ≤ ns.length }, 1000, fun n => [(2, .one (.sl yI c false)), (3, .one (.sl yPL f false)), (4, .one (.loc 64 0)), (5, .one (.loc 65 0)), (8, .one (.loc 66 0)), (11, .one (.loc 67 0)), (13, .one (.loc 68 0)), (14, .one (.row 73)), (15, .one (.int .i64 n.1))], fun n => [(64, .cells 30 [.sl yNO ns false, .sl yPL ds false]), (65, .cells 37 [.sl (.sl yI) sl false, .sl (.sl yI) bn false]), (66, .cells 37 [.undef, .undef]), (67, .cells 90 [.sl yI fl.1 false, .sl yI fl.2 false]), (68, .cells 37 [.row 69, .row 71]), (69, .rowg 22 (.sl yI) 0 70 (List.replicate ns.length []) none), (70, .fam 3 yI (updL (sl1 ns (sl, bn) f fl) (fun i => sl.getD i []) ns.length n.1)), (71, .rowg 22 (.sl yI) 0 72 (List.replicate ns.length []) none), (72, .fam 3 yI (updL (bn1 ns (sl, bn) c fl) (fun i => bn.getD i []) ns.length n.1)), (73, .row 3 yI (updL (leftV ns (sl, bn) c f fl) (fun _ => 0) ns.length n.1))], fun n => ns.length - n.1⟩ ⟨0, Nat.zero_le _⟩ ?_ ?_
  · simp only [go_sem]; simp only [hsl, hbl, jB4 [] hsl, jB4 [] hbl, nB6]
    try first | rfl | (and_intros <;> first | trivial | rfl | omega)
  · rintro ⟨n, (hn : n ≤ ns.length)⟩
    (simp -implicitDefEqProofs (maxSteps := 4000000) only [go_sem, bP, con16, con23, con44, con45, con42, conPutN, conDropN, con43, hT, hG, hk, hK, Tryz.results16]); (try simp (disch := decide +kernel) only [drawn, true_and, and_true])
    refine fun _ => ⟨fun hlt => ?_, fun hge => ?_⟩
    · have hn' : n < ns.length := by omega
      have enn : (n : Int).toNat = n := Int.toNat_natCast n; have hnd := hg.nd n hn'; have hln := hp.ln n hn'; have h8 : (sl.getD n []).length ≤ 8 := by
       have h8 := hg.le8 ns[n] (List.getElem_mem hn'); rw [show ns.getD n nd0 = ns[n] by simp [hn']] at hln; dsimp only at hln; omega
      have hbl9 : (bn.getD n []).length ≤ 900000 := hbk _ (by
       rw [gdE, List.getElem?_eq_getElem (show n < bn.length by omega)]; exact List.getElem_mem _)
      obtain ⟨y, ey⟩ : ∃ y, ns.getD n nd0 = y := ⟨_, rfl⟩; have ek : ∀ z, ns.getD n z = y := fun z => by rw [← ey]; simp [hn']
      have eb : ∀ z, (updL (bn1 ns (sl, bn) c fl) (fun i => bn.getD i []) ns.length n).getD n z = bn.getD n [] := fun z => by rw [kC5 hn', if_neg (by omega)]
      have hS1 := mA5 (g := sl1 ns (sl, bn) f fl) (h := fun i => sl.getD i []) hn'; have hB1 := mA5 (g := bn1 ns (sl, bn) c fl) (h := fun i => bn.getD i []) hn'; have hL1 := mA5 (g := leftV ns (sl, bn) c f fl) (h := fun _ => 0) hn'; have hS0 : sl1 ns (sl, bn) f fl n = sl.getD n [] → _ := kA7 (n := ns.length) (g := sl1 ns (sl, bn) f fl) (h := fun i => sl.getD i []) (m := n); have hB0 : bn1 ns (sl, bn) c fl n = bn.getD n [] → _ := kA7 (n := ns.length) (g := bn1 ns (sl, bn) c fl) (h := fun i => bn.getD i []) (m := n); have hL0 : leftV ns (sl, bn) c f fl n = 0 → _ := kA7 (n := ns.length) (g := leftV ns (sl, bn) c f fl) (h := fun _ => 0) (m := n); have vS1 : strN y.2.1 = true → sl1 ns (sl, bn) f fl n = (advV (sl.getD n []) (atV ns f n) (decide (0 ≤ fl.1.getD n 0))).1 := fun h => by unfold sl1; rw [ey, if_pos h]
      have vS0 : strN y.2.1 = false → sl1 ns (sl, bn) f fl n = sl.getD n [] := fun h => by unfold sl1; rw [ey, if_neg (by rw [h]; decide)]
      have vB1 : strN y.2.1 = false → 0 ≤ fl.1.getD n 0 → bn1 ns (sl, bn) c fl n = othF (bn.getD n []) (c.getD n 0) := fun h q => by unfold bn1; rw [ey, if_pos ⟨h, q⟩]
      have vB0 : strN y.2.1 = true ∨ ¬ 0 ≤ fl.1.getD n 0 → bn1 ns (sl, bn) c fl n = bn.getD n [] := fun h => by
       unfold bn1; rw [ey, if_neg (fun q => h.elim (fun e => by rw [e] at q; cases q.1) (fun e => e q.2))]
      have vL1 : strN y.2.1 = true → leftV ns (sl, bn) c f fl n = (advV (sl.getD n []) (atV ns f n) (decide (0 ≤ fl.1.getD n 0))).2 := fun h => by unfold leftV; rw [ey, if_pos h]
      have vL2 : strN y.2.1 = false → 0 ≤ fl.1.getD n 0 → leftV ns (sl, bn) c f fl n = c.getD n 0 := fun h q => by unfold leftV; rw [ey, if_neg (by rw [h]; decide), if_pos q]
      have vL0 : strN y.2.1 = false → ¬ 0 ≤ fl.1.getD n 0 → leftV ns (sl, bn) c f fl n = 0 := fun h q => by unfold leftV; rw [ey, if_neg (by rw [h]; decide), if_neg q]
      simp only [enn, ek, eb, List.length_replicate, fB2]
      (repeat' with_reducible first | refine And.intro ?_ ?_ | intro _) <;> try first | with_reducible (first | assumption | omega | contradiction) | decide
      all_goals first
       | omega
       | exact hg
       | exact hpo.fl
       | (have h : strN y.2.1 = true := by assumption
          rw [vS1 h] at hS1; rw [vL1 h] at hL1; have hb := hB0 (vB0 (.inl h)); refine dA0 ⟨n + 1, by omega⟩ ?_ (by dsimp only; omega); simp only [go_sem]; rw [hb, ← hS1, ← hL1]
          try first | rfl | (and_intros <;> first | trivial | rfl | omega)
          done)
       | (have h : strN y.2.1 = false := by assumption
          have q : 0 ≤ fl.1.getD n 0 := by assumption
          rw [vB1 h q] at hB1; rw [vL2 h q] at hL1; have hs := hS0 (vS0 h); refine dA0 ⟨n + 1, by omega⟩ ?_ (by dsimp only; omega); simp only [go_sem]; rw [hs, ← hB1, ← hL1]
          try first | rfl | (and_intros <;> first | trivial | rfl | omega)
          done)
       | (have h : strN y.2.1 = false := by assumption
          have q : ¬ 0 ≤ fl.1.getD n 0 := by omega
          have hs := hS0 (vS0 h); have hb := hB0 (vB0 (.inr q)); have hl := hL0 (vL0 h q); refine dA0 ⟨n + 1, by omega⟩ ?_ (by dsimp only; omega); simp only [go_sem]; rw [hs, hb, hl]
          try first | rfl | (and_intros <;> first | trivial | rfl | omega)
          done)
    · have : n = ns.length := by omega
      subst this; simp only [dB2]; have hs0 : ((List.range ns.length).map (sl1 ns (sl, bn) f fl)).length = ns.length := by simp
      have hinv := jB6 (ns := ns) (fl := fl) (L := leftV ns (sl, bn) c f fl) (K := 900000) (s := ((List.range ns.length).map (sl1 ns (sl, bn) f fl), (List.range ns.length).map (bn1 ns (sl, bn) c fl), [])) (fun k hk h => (hto k hk h).2) ⟨by simp, by simp, fun _ => rfl, fun b hb => by
       obtain ⟨i, hi, rfl⟩ := List.mem_map.1 hb; rw [List.mem_range] at hi; have hbi : (bn.getD i []).length ≤ 900000 := hbk _ (by
        rw [gdE, List.getElem?_eq_getElem (show i < bn.length by omega)]; exact List.getElem_mem _)
       unfold bn1; split
       · exact Nat.le_trans (jA7 _ _) (by dsimp only; omega)
       · dsimp only; omega, Nat.le_refl _⟩
      refine cA0 ⟨{ q : Nat × St2 // q.1 ≤ ns.length ∧ q.2 = stI ns fl (leftV ns (sl, bn) c f fl) ((List.range ns.length).map (sl1 ns (sl, bn) f fl), (List.range ns.length).map (bn1 ns (sl, bn) c fl), []) q.1 }, 2000, fun q => [(4, .one (.loc 64 0)), (5, .one (.loc 65 0)), (8, .one (.loc 66 0)), (11, .one (.loc 67 0)), (13, .one (.loc 68 0)), (14, .one (.row 73)), (16, .one (.row 74)), (17, .one (.int .i64 q.1.1))], fun q => [(64, .cells 30 [.sl yNO ns false, .sl yPL ds false]), (65, .cells 37 [.sl (.sl yI) sl false, .sl (.sl yI) bn false]), (66, .cells 37 [.undef, .undef]), (67, .cells 90 [.sl yI fl.1 false, .sl yI fl.2 false]), (68, .cells 37 [.row 69, .row 71]), (69, .rowg 22 (.sl yI) 0 70 (List.replicate ns.length []) none), (70, .fam 3 yI q.1.2.1), (71, .rowg 22 (.sl yI) 0 72 (List.replicate ns.length []) none), (72, .fam 3 yI q.1.2.2.1), (73, .row 3 yI ((List.range ns.length).map (leftV ns (sl, bn) c f fl))), (74, .row 54 yPL q.1.2.2.2)], fun q => ns.length - q.1.1⟩ ⟨(0, ((List.range ns.length).map (sl1 ns (sl, bn) f fl), (List.range ns.length).map (bn1 ns (sl, bn) c fl), [])), Nat.zero_le _, rfl⟩ ?_ ?_
      · simp only [go_sem]; rfl
      · rintro ⟨⟨n, ⟨(S : List (List Int)), (B : List (List Int)), (R : List Dv)⟩⟩, (hn : n ≤ ns.length), (hSt : (S, B, R) = stI ns fl (leftV ns (sl, bn) c f fl) ((List.range ns.length).map (sl1 ns (sl, bn) f fl), (List.range ns.length).map (bn1 ns (sl, bn) c fl), []) n)⟩; have hiv := hinv n hn; rw [← hSt] at hiv; obtain ⟨iA, iB, iC, iD, iE⟩ := hiv; dsimp only at iA iB iC iD iE
        (simp -implicitDefEqProofs (maxSteps := 4000000) only [go_sem, bP, con16, con23, con44, con45, con42, conPutN, conDropN, con43, hT, hG, hk, hK, Tryz.results16]); (try simp (disch := decide +kernel) only [drawn, true_and, and_true])
        refine fun _ => ⟨fun hlt => ?_, fun hge => ?_⟩
        · have hn' : n < ns.length := by omega
          have enn : (n : Int).toNat = n := Int.toNat_natCast n; obtain ⟨y, ey⟩ : ∃ y, ns.getD n nd0 = y := ⟨_, rfl⟩; have ek : ∀ z, ns.getD n z = y := fun z => by rw [← ey]; simp [hn']
          have eL : ∀ z, ((List.range ns.length).map (leftV ns (sl, bn) c f fl)).getD n z = leftV ns (sl, bn) c f fl n := fun z => by simp [hn']
          have eM : ((List.range ns.length).map (leftV ns (sl, bn) c f fl)).length = ns.length := by simp
          have hht := hto n hn'; have hst : stI ns fl (leftV ns (sl, bn) c f fl) ((List.range ns.length).map (sl1 ns (sl, bn) f fl), (List.range ns.length).map (bn1 ns (sl, bn) c fl), []) (n + 1) = st2 ns fl (leftV ns (sl, bn) c f fl) (S, B, R) n := by rw [stI, ← hSt]
          have et : ∀ z, y.2.2.2.2.getD (fl.1.getD n 0).toNat z = if leftV ns (sl, bn) c f fl n = 0 then y.2.2.2.2.getD (fl.1.getD n 0).toNat z else toV ns fl n := fun z => by
           by_cases h : leftV ns (sl, bn) c f fl n = 0
           · rw [if_pos h]
           · rw [if_neg h]; have h1 := (hht h).1; rw [ey] at h1; unfold toV; rw [ey]; exact vC6 (by omega) _ _
          unfold st2 at hst; rw [ey] at hht; simp only [enn, ek, eL, eM, List.length_replicate, iA, iB]; by_cases hv : leftV ns (sl, bn) c f fl n = 0
          · rw [if_pos hv] at hst; simp only [hv]
            (repeat' with_reducible first | refine And.intro ?_ ?_ | intro _) <;> try first | with_reducible (first | assumption | omega | contradiction) | decide
            all_goals first
             | omega
             | (refine dA0 ⟨(n + 1, (S, B, R)), by dsimp only; omega, hst.symm⟩ ?_ (by dsimp only; omega)
                simp only [go_sem]
                try rfl
                done)
          · obtain ⟨h1, h2⟩ := hht hv; have et : ∀ z, y.2.2.2.2.getD (fl.1.getD n 0).toNat z = toV ns fl n := fun z => by rw [et, if_neg hv]
            simp only [et]; obtain ⟨q, hq⟩ : ∃ q : Nat, toV ns fl n = q := ⟨(toV ns fl n).toNat, by omega⟩; rw [if_neg hv, hq] at hst; rw [hq] at h2; simp only [hq]; have hq' : q < ns.length := by omega
            have eqq : (q : Int).toNat = q := Int.toNat_natCast q; obtain ⟨x, ex⟩ : ∃ x, ns.getD q nd0 = x := ⟨_, rfl⟩; have exk : ∀ z, ns.getD q z = x := fun z => by rw [← ex]; simp [hq']
            have hndq := (hg.nd q hq').ln; dsimp only at hndq; rw [ex] at hndq; rw [eqq, ex] at hst; have hsq : strN x.2.1 = true → 1 ≤ (S.getD q []).length := fun h => by
             rw [iC, show ((List.range ns.length).map (sl1 ns (sl, bn) f fl)).getD q [] = sl1 ns (sl, bn) f fl q by simp [hq']]; unfold sl1; rw [ex, if_pos h, advV, uA3]; have := hp.ln q hq'; rw [ex] at this; have := hndq h; dsimp only at *; omega
            have hbq : (B.getD q []).length ≤ 900024 := by
             have := iD (B.getD q []) (by
              rw [gdE, List.getElem?_eq_getElem (show q < B.length by omega)]; exact List.getElem_mem _)
             omega
            have eSq : ∀ z, S.getD q z = S.getD q [] := fun z => by simp [show q < S.length by omega]
            generalize leftV ns (sl, bn) c f fl n = v at *; simp only [eqq, exk]
            (repeat' with_reducible first | refine And.intro ?_ ?_ | intro _) <;> try first | with_reducible (first | assumption | omega | contradiction) | decide
            all_goals first
             | omega
             | (have h := hsq (by assumption); omega)
             | (have h : strN x.2.1 = true := by assumption
                have e : ¬ (q : Int) = n := by assumption
                rw [if_pos h, if_pos h, if_pos e] at hst; refine dA0 ⟨(n + 1, (S.set q ((S.getD q []).set 0 v), B, R ++ [(v, (n : Int), (q : Int))])), by dsimp only; omega, hst.symm⟩ ?_ (by dsimp only; omega); simp only [go_sem]
                try rfl
                done)
             | (have h : strN x.2.1 = true := by assumption
                have e : (q : Int) = n := by assumption
                rw [if_pos h, if_pos h, if_neg (fun w => w e)] at hst; refine dA0 ⟨(n + 1, (S.set q ((S.getD q []).set 0 v), B, R)), by dsimp only; omega, hst.symm⟩ ?_ (by dsimp only; omega); simp only [go_sem]
                try rfl
                done)
             | (have h : strN x.2.1 = false := by assumption
                have e : ¬ (q : Int) = n := by assumption
                rw [if_neg (by rw [h]; decide), if_neg (by rw [h]; decide), if_pos e] at hst; refine dA0 ⟨(n + 1, (S, B.set q (putV (B.getD q []) v), R ++ [(v, (n : Int), (q : Int))])), by dsimp only; omega, hst.symm⟩ ?_ (by dsimp only; omega); simp only [go_sem]
                try rfl
                done)
             | (have h : strN x.2.1 = false := by assumption
                have e : (q : Int) = n := by assumption
                rw [if_neg (by rw [h]; decide), if_neg (by rw [h]; decide), if_neg (fun w => w e)] at hst; refine dA0 ⟨(n + 1, (S, B.set q (putV (B.getD q []) v), R)), by dsimp only; omega, hst.symm⟩ ?_ (by dsimp only; omega); simp only [go_sem]
                try rfl
                done)
        · have : n = ns.length := by omega
          subst this; have hfin : stepF ns (sl, bn) c f fl = (S, B, R) := by unfold stepF; exact hSt.symm
          rw [hsv, hfin]; exact ⟨rfl, bA3 iB, bA3 iA⟩)
end Go.Proofs.YtabadacjbkhmkaaGreatDoor

set_option maxRecDepth 100000
set_option maxHeartbeats 8000000
namespace Go.Proofs.YtabadacjbkhmkaaGreatDoor
open Go.Ev
def binK (b : List Int) : List Int := (b.length : Int) :: b
def keyV (p : Pl) : List Int := p.1.flatten ++ (p.2.map binK).flatten
theorem gC3 {α : Type} {l : List (List α)} {i : Nat} (h : i < l.length) : (l.take (i + 1)).flatten = (l.take i).flatten ++ l[i] := by
 rw [tsE h, List.flatten_append]; simp
theorem yB0 {α : Type} {K : Nat} : ∀ {l : List (List α)}, (∀ s ∈ l, s.length ≤ K) → l.flatten.length ≤ K * l.length
 | [], _ => by simp
 | s :: l, h => by
   have h1 := h s List.mem_cons_self; have h2 := yB0 (K := K) (l := l) fun t ht => h t (List.mem_cons_of_mem _ ht); rw [List.flatten_cons, List.length_append, List.length_cons, Nat.mul_add]; omega
def con111 : Con := { ps := [.d true yP2], rs := [.o 3 yI], pre := fun (x : Pl × Unit) => cpyP x.1.1 x.1.2, out := fun (x : Pl × Unit) => (keyV x.1, ()), nw := id }
theorem c111 : CtrOk Tryz.prog 111 con111.ctr :=
 aA0 eA0 eN rfl Tryz.func111 rfl con111 16778303 (by kernel_rfl) (by decide) (by decide) rfl (by decide) rfl (by
  rintro ⟨⟨(sl : List (List Int)), (bn : List (List Int))⟩, _⟩ hpre hwf X hT hG hk hK; obtain ⟨⟨h1, h2⟩, h3, h4⟩ : cpyP sl bn := hpre
  (simp -implicitDefEqProofs (maxSteps := 4000000) only [go_sem, bP, con111, hT, hG, hk, hK, Tryz.results111] at hwf ⊢); (try simp (disch := decide +kernel) only [drawn, true_and, and_true])
  clear hwf; refine cA0 ⟨{ i : Nat // i ≤ sl.length }, 1000, fun i => [(1, .one (.loc 64 0)), (3, .one (.row 65)), (4, .one (.int .i64 i.1))], fun i => [(64, .cells 37 [.sl (.sl yI) sl false, .sl (.sl yI) bn false]), (65, .row 3 yI (sl.take i.1).flatten)], fun i => sl.length - i.1⟩ ⟨0, Nat.zero_le _⟩ ?_ ?_
  · simp only [go_sem]; simp only [List.take_zero, List.flatten_nil]
    try first | rfl | (and_intros <;> first | trivial | rfl | omega)
  · rintro ⟨i, (hi : i ≤ sl.length)⟩; have hfl := yB0 (K := 1000000) (l := sl.take i) fun s hs => h3 s (List.mem_of_mem_take hs); rw [List.length_take] at hfl
    (simp -implicitDefEqProofs (maxSteps := 4000000) only [go_sem, bP, con111, hT, hG, hk, hK, Tryz.results111]); (try simp (disch := decide +kernel) only [drawn, true_and, and_true])
    refine fun _ => ⟨fun hlt => ?_, fun hge => ?_⟩
    · have hi' : i < sl.length := by omega
      have ek : ∀ z, sl.getD (i : Int).toNat z = sl[i] := fun z => by simp [hi']
      have h8 := h3 sl[i] (List.getElem_mem hi'); have hst := gC3 hi'; simp only [ek]
      (repeat' with_reducible first | refine And.intro ?_ ?_ | intro _) <;> try first | with_reducible (first | assumption | omega | contradiction) | decide
      all_goals first
       | omega
       | (refine dA0 ⟨i + 1, by omega⟩ ?_ (by dsimp only; omega)
          simp only [go_sem]; rw [hst]
          try first | rfl | (and_intros <;> first | trivial | rfl | omega)
          done)
    · have : i = sl.length := by omega
      subst this; rw [List.take_length] at *; refine cA0 ⟨{ i : Nat // i ≤ bn.length }, 2000, fun i => [(1, .one (.loc 64 0)), (3, .one (.row 65)), (5, .one (.int .i64 i.1))], fun i => [(64, .cells 37 [.sl (.sl yI) sl false, .sl (.sl yI) bn false]), (65, .row 3 yI (sl.flatten ++ ((bn.take i.1).map binK).flatten))], fun i => bn.length - i.1⟩ ⟨0, Nat.zero_le _⟩ ?_ ?_
      · simp only [go_sem]; simp only [List.take_zero, List.map_nil, List.flatten_nil, List.append_nil]
        try first | rfl | (and_intros <;> first | trivial | rfl | omega)
      · rintro ⟨i, (hi : i ≤ bn.length)⟩; have hgl := yB0 (K := 1000001) (l := (bn.take i).map binK) fun s hs => by
         obtain ⟨b, hb, rfl⟩ := List.mem_map.1 hs; have := h4 b (List.mem_of_mem_take hb); unfold binK; rw [List.length_cons]; omega
        rw [List.length_map, List.length_take] at hgl
        (simp -implicitDefEqProofs (maxSteps := 4000000) only [go_sem, bP, con111, hT, hG, hk, hK, Tryz.results111]); (try simp (disch := decide +kernel) only [drawn, true_and, and_true])
        refine fun _ => ⟨fun hlt => ?_, fun hge => ?_⟩
        · have hi' : i < bn.length := by omega
          have ek : ∀ z, bn.getD (i : Int).toNat z = bn[i] := fun z => by simp [hi']
          have h8 := h4 bn[i] (List.getElem_mem hi'); have hst : ((bn.take (i + 1)).map binK).flatten = ((bn.take i).map binK).flatten ++ ([(bn[i].length : Int)] ++ bn[i]) := by
           rw [tsE hi', List.map_append, List.flatten_append]; simp [binK]
          simp only [ek]
          (repeat' with_reducible first | refine And.intro ?_ ?_ | intro _) <;> try first | with_reducible (first | assumption | omega | contradiction) | decide
          all_goals first
           | omega
           | (simp only [List.length_append, List.length_singleton]; omega)
           | (refine dA0 ⟨i + 1, by omega⟩ ?_ (by dsimp only; omega)
              simp only [go_sem]; rw [hst]; simp only [List.append_assoc]
              try first | rfl | (and_intros <;> first | trivial | rfl | omega)
              done)
        · rw [show i = bn.length by omega, List.take_length]; rfl)
def lessL : List Int → List Int → Bool
 | [], [] => false
 | [], _ :: _ => true
 | _ :: _, [] => false
 | a :: x, b :: y => if a = b then lessL x y else decide (a < b)
def lessP (a b : Pl) : Bool := lessL (keyV a) (keyV b)
theorem yC1 {x y : List Int} : (∀ i, i < x.length → i < y.length → False) → lessL x y = decide (x.length < y.length) := by
 intro h
 match x, y with
 | [], [] => rfl
 | [], _ :: _ => simp [lessL]
 | _ :: _, [] => simp [lessL]
 | _ :: _, _ :: _ => exact (h 0 (by simp) (by simp)).elim
def con87 : Con := { ps := [.d true yP2, .d true yP2], rs := [.d false .bool], pre := fun (x : Pl × Pl × Unit) => cpyP x.1.1 x.1.2 ∧ cpyP x.2.1.1 x.2.1.2, out := fun (x : Pl × Pl × Unit) => (lessP x.1 x.2.1, ()), nw := id }
theorem c87 : CtrOk Tryz.prog 87 con87.ctr :=
 aA0 eA0 (eC c111 has111 eN) rfl Tryz.func87 rfl con87 4297064703 (by kernel_rfl) (by decide) (by decide) rfl (by decide) rfl (by
  rintro ⟨⟨(a : List (List Int)), (b : List (List Int))⟩, ⟨(c : List (List Int)), (d : List (List Int))⟩, _⟩ hpre hwf X hT hG hk hK; obtain ⟨hp1, hp2⟩ : cpyP a b ∧ cpyP c d := hpre
  (simp -implicitDefEqProofs (maxSteps := 4000000) only [go_sem, bP, con87, con111, hT, hG, hk, hK, Tryz.results87] at hwf ⊢); (try simp (disch := decide +kernel) only [drawn, true_and, and_true])
  clear hwf; have hll : lessP (a, b) (c, d) = lessL (keyV (a, b)) (keyV (c, d)) := rfl; obtain ⟨x, hx⟩ : ∃ x, keyV (a, b) = x := ⟨_, rfl⟩; obtain ⟨y, hy⟩ : ∃ y, keyV (c, d) = y := ⟨_, rfl⟩; rw [hx, hy] at hll; simp only [hx, hy]; refine ⟨hp1, fun _ => ⟨hp2, fun _ => ?_⟩⟩; refine cA0 ⟨{ i : Nat // i ≤ x.length ∧ lessL (x.drop i) (y.drop i) = lessL x y }, 1000, fun i => [(5, .one (.row 64)), (6, .one (.row 65)), (7, .one (.int .i64 i.1))], fun i => [(64, .row 3 yI x), (65, .row 3 yI y)], fun i => x.length - i.1⟩ ⟨0, Nat.zero_le _, rfl⟩ ?_ ?_
  · simp only [go_sem]; rfl
  · rintro ⟨i, (hi : i ≤ x.length), (hz : lessL (x.drop i) (y.drop i) = lessL x y)⟩
    (simp -implicitDefEqProofs (maxSteps := 4000000) only [go_sem, bP, con87, con111, hT, hG, hk, hK, Tryz.results87]); (try simp (disch := decide +kernel) only [drawn, true_and, and_true])
    have ekk : (i : Int).toNat = i := Int.toNat_natCast i; by_cases hb : i < x.length ∧ i < y.length
    · obtain ⟨hx, hy⟩ := hb; have ex : ∀ z, x.getD i z = x[i] := fun z => by simp [hx]
      have ey : ∀ z, y.getD i z = y[i] := fun z => by simp [hy]
      rw [List.drop_eq_getElem_cons hx, List.drop_eq_getElem_cons hy, lessL] at hz; simp only [ekk, ex, ey]
      (repeat' with_reducible first | refine And.intro ?_ ?_ | intro _) <;> try first | with_reducible (first | assumption | omega | contradiction) | decide
      all_goals first
       | omega
       | (rw [if_neg (by assumption)] at hz
          rw [hll, ← hz]
          done)
       | (rw [if_pos (by assumption)] at hz
          refine dA0 ⟨i + 1, by omega, hz⟩ ?_ (by dsimp only; omega); simp only [go_sem]
          try rfl
          done)
    · have hz2 : lessL x y = decide (x.length < y.length) := by
       rw [← hz, yC1 (fun j h1 h2 => by rw [List.length_drop] at h1 h2; omega), List.length_drop, List.length_drop, decide_eq_decide]; omega
      rw [hz2] at hll; simp only [ekk]
      (repeat' with_reducible first | refine And.intro ?_ ?_ | intro _) <;> try first | with_reducible (first | assumption | omega | contradiction) | decide
      all_goals first
       | omega
       | (rw [hll, decide_eq_decide]; omega))
abbrev Hy := Int × Pl
def hy0 : Hy := (0, [], [])
def addN (l : List Hy) (h : Hy) : Nat := (l.takeWhile (fun y => lessP y.2 h.2)).length
theorem oB1 : ∀ {l : List Hy} {h : Hy} {k : Nat} (hk : k ≤ l.length), (∀ j (hj : j < l.length), j < k → lessP l[j].2 h.2 = true) → (∀ hk : k < l.length, lessP l[k].2 h.2 = false) → addN l h = k
 | [], h, k, hk, _, _ => by simp only [List.length_nil] at hk; unfold addN; simp; omega
 | x :: l, h, 0, _, _, e => by
   have h0 := e (by simp); unfold addN
   rw [List.takeWhile_cons_of_neg (by simpa using h0)]; rfl
 | x :: l, h, k + 1, hk, h1, h2 => by
   have hx : lessP x.2 h.2 = true := h1 0 (by simp) (by omega); have ih := oB1 (l := l) (h := h) (k := k) (by simpa using hk) (fun j hj hk => h1 (j + 1) (by simp; omega) (by omega)) (fun hk => h2 (by simp; omega)); unfold addN at ih ⊢; rw [List.takeWhile_cons_of_pos (p := fun y : Hy => lessP y.2 h.2) (a := x) hx, List.length_cons, ih]
def addV (l : List Hy) (h : Hy) : List Hy :=
 if addN l h < l.length ∧ (l.getD (addN l h) hy0).2 = h.2 then l.take (addN l h) ++ [(if (l.getD (addN l h) hy0).1 < h.1 then (l.getD (addN l h) hy0).1 else h.1, h.2)] ++ l.drop (addN l h + 1)
 else l.take (addN l h) ++ [h] ++ l.drop (addN l h)
def con49 : Con := { ps := [.d false (.sl yHY), .d true yHY], rs := [.o 50 yHY], pre := fun (x : List Hy × Hy × Unit) => x.1.length ≤ 100000000 ∧ (∀ y ∈ x.1, cpyP y.2.1 y.2.2) ∧ cpyP x.2.1.2.1 x.2.1.2.2, out := fun (x : List Hy × Hy × Unit) => (addV x.1 x.2.1, ()), nw := id }
theorem c49 : CtrOk Tryz.prog 49 con49.ctr :=
 aA0 eA0 (eC c87 has87 (eC c88 has88 eN)) rfl Tryz.func49 rfl con49 2199024304251 (by kernel_rfl) (by decide) (by decide) rfl (by decide) rfl (by
  rintro ⟨(l : List Hy), ⟨(u : Int), (sl : List (List Int)), (bn : List (List Int))⟩, _⟩ hpre hwf X hT hG hk hK; obtain ⟨hl, hcl, hcp⟩ : l.length ≤ 100000000 ∧ (∀ y ∈ l, cpyP y.2.1 y.2.2) ∧ cpyP sl bn := hpre
  (simp -implicitDefEqProofs (maxSteps := 4000000) only [go_sem, bP, con49, con87, con88, hT, hG, hk, hK, Tryz.results49] at hwf ⊢); (try simp (disch := decide +kernel) only [drawn, true_and, and_true])
  clear hwf; refine cA0 ⟨{ k : Nat // k ≤ l.length ∧ ∀ j (hj : j < l.length), j < k → lessP l[j].2 (sl, bn) = true }, 1000, fun k => [(0, .one (.sl yHY l false)), (3, .one (.loc 64 0)), (5, .one (.int .i64 k.1))], fun k => [(64, .cells 50 [.int .i64 u, .sl (.sl yI) sl false, .sl (.sl yI) bn false])], fun k => l.length - k.1⟩ ⟨0, Nat.zero_le _, fun j hj h => by omega⟩ ?_ ?_
  · simp only [go_sem]; rfl
  · rintro ⟨k, (hkl : k ≤ l.length), (hz : ∀ j (hj : j < l.length), j < k → lessP l[j].2 (sl, bn) = true)⟩
    (simp -implicitDefEqProofs (maxSteps := 4000000) only [go_sem, bP, con49, con87, con88, hT, hG, hk, hK, Tryz.results49]); (try simp (disch := decide +kernel) only [drawn, true_and, and_true])
    have ekk : (k : Int).toNat = k := Int.toNat_natCast k; have ell : (l.length : Int).toNat = l.length := Int.toNat_natCast _; by_cases hk' : k < l.length
    · have ek : ∀ z, l.getD k z = l[k] := fun z => by simp [hk']
      have hck := hcl l[k] (List.getElem_mem hk'); have ek1 : ((k : Int) + 1).toNat = k + 1 := by omega
      simp only [ekk, ek, ell, ek1, List.take_length]
      (repeat' with_reducible first | refine And.intro ?_ ?_ | intro _) <;> try first | with_reducible (first | assumption | omega | contradiction) | decide
      all_goals first
       | omega
       | exact hck
       | exact hcp
       | (rw [List.length_take]; omega)
       | (simp only [List.length_append, List.length_take, List.length_drop, List.length_singleton]; omega)
       | (have h : (k : Int) < l.length ∧ lessP l[k].2 (sl, bn) = true := by assumption
          refine dA0 ⟨k + 1, by omega, fun j hj hjk => ?_⟩ ?_ (by dsimp only; omega)
          · by_cases e : j = k
            · subst e; exact h.2
            · exact hz j hj (by omega)
          · simp only [go_sem]
            try rfl
          done)
       | (have hq : lessP l[k].2 (sl, bn) = false := (by assumption : ¬ (k : Int) < l.length ∨ lessP l[k].2 (sl, bn) = false).elim (fun h => absurd (by omega) h) id
          have hb : addN l (u, sl, bn) = k := oB1 hkl hz (fun _ => hq); have h : (k : Int) < l.length ∧ l[k].2 = (sl, bn) := by assumption
          have e : addV l (u, sl, bn) = l.take k ++ [(if l[k].1 < u then l[k].1 else u, sl, bn)] ++ l.drop (k + 1) := by
           unfold addV; rw [hb, ek]; exact if_pos ⟨hk', h.2⟩
          exact e.symm)
       | (have hq : lessP l[k].2 (sl, bn) = false := (by assumption : ¬ (k : Int) < l.length ∨ lessP l[k].2 (sl, bn) = false).elim (fun h => absurd (by omega) h) id
          have hb : addN l (u, sl, bn) = k := oB1 hkl hz (fun _ => hq); have h : ¬ l[k].2 = (sl, bn) := (by assumption : ¬ (k : Int) < l.length ∨ ¬ l[k].2 = (sl, bn)).elim (fun h => absurd (by omega) h) id; unfold addV; rw [hb, ek, if_neg (fun w => h w.2)]
          done)
    · have hb : addN l (u, sl, bn) = k := oB1 hkl hz (fun h => absurd h hk'); have hav : addV l (u, sl, bn) = l.take k ++ [(u, sl, bn)] ++ l.drop k := by
       unfold addV; rw [hb, if_neg (fun w => hk' w.1)]
      simp only [ekk, ell, List.take_length]
      (repeat' with_reducible first | refine And.intro ?_ ?_ | intro _) <;> try first | with_reducible (first | assumption | omega | contradiction) | decide
      all_goals first
       | omega
       | (rw [List.length_take]; omega)
       | (simp only [List.length_append, List.length_take, List.length_drop, List.length_singleton]; omega)
       | (rw [hav]; done)
       | (exfalso; omega))
abbrev Be := Int × List Hy
def endV (b : Be) : Be × Int := if b.2.length = 0 then ((0, []), 11) else if 40 < b.2.length then ((0, []), 2) else (b, 0)
def con50 : Con := { ps := [.d true yBE], rs := [.d true yBE, .d false yI], pre := fun _ => True, out := fun (x : Be × Unit) => ((endV x.1).1, (endV x.1).2, ()), nw := id }
theorem c50 : CtrOk Tryz.prog 50 con50.ctr :=
 aA0 eA0 eN rfl Tryz.func50 rfl con50 4239 (by kernel_rfl) (by decide) (by decide) rfl (by decide) rfl (by
  rintro ⟨⟨(n : Int), (l : List Hy)⟩, _⟩ hpre hwf X hT hG hk hK
  (simp -implicitDefEqProofs (maxSteps := 4000000) only [go_sem, bP, con50, hT, hG, hk, hK, Tryz.results50] at hwf ⊢)
  clear hwf; have h1 : l.length = 0 → endV (n, l) = ((0, []), 11) := fun h => by unfold endV; rw [if_pos h]
  have h2 : ¬ l.length = 0 → 40 < l.length → endV (n, l) = ((0, []), 2) := fun h q => by unfold endV; rw [if_neg h, if_pos q]
  have h3 : ¬ l.length = 0 → ¬ 40 < l.length → endV (n, l) = ((n, l), 0) := fun h q => by unfold endV; rw [if_neg h, if_neg q]
  (repeat' with_reducible first | refine And.intro ?_ ?_ | intro _) <;> try first | with_reducible (first | assumption | omega | contradiction) | decide
  all_goals first
   | omega
   | (rw [h1 (by omega)]; done)
   | (rw [h2 (by omega) (by omega)]; done)
   | (rw [h3 (by omega) (by omega)]; done))
def lastO (p : Pl) (n : Int) : Option Int :=
 if n < 0 ∨ (p.1.length : Int) ≤ n ∨ (p.1.getD n.toNat []).length = 0 then none
 else some ((p.1.getD n.toNat []).getD ((p.1.getD n.toNat []).length - 1) 0)
def atS (l : List Hy) (n : Int) : Nat → List Int
 | 0 => []
 | i + 1 => match lastO (l.getD i hy0).2 n with
   | none => atS l n i
   | some v => if (atS l n i).any (fun y => decide (v = y)) = true then atS l n i else putV (atS l n i) v
theorem iB1 (l : List Hy) (n : Int) : ∀ i, (atS l n i).length ≤ i
 | 0 => Nat.le_refl _
 | i + 1 => by
   have ih := iB1 l n i; unfold atS; split
   · omega
   · split
     · omega
     · rw [xB6]; omega
def con19 : Con := { ps := [.d true yBE, .d false yI], rs := [.o 3 yI], pre := fun (x : Be × Int × Unit) => x.1.2.length ≤ 1000000, out := fun (x : Be × Int × Unit) => (atS x.1.2 x.2.1 x.1.2.length, ()), nw := id }
theorem c19 : CtrOk Tryz.prog 19 con19.ctr :=
 aA0 eA0 (eC c32 has32 (eC c47 has47 eN)) rfl Tryz.func19 rfl con19 9223380832947806711 (by kernel_rfl) (by decide) (by decide) rfl (by decide) rfl (by
  rintro ⟨⟨(u : Int), (l : List Hy)⟩, (n : Int), _⟩ hpre hwf X hT hG hk hK; have hl : l.length ≤ 1000000 := hpre
  (simp -implicitDefEqProofs (maxSteps := 4000000) only [go_sem, bP, con19, con32, con47, hT, hG, hk, hK, Tryz.results19] at hwf ⊢)
  clear hwf; refine cA0 ⟨{ i : Nat // i ≤ l.length }, 1000, fun i => [(1, .one (.int .i64 n)), (2, .one (.loc 64 0)), (5, .one (.row 65)), (6, .one (.int .i64 i.1))], fun i => [(64, .cells 34 [.int .i64 u, .sl yHY l false]), (65, .row 3 yI (atS l n i.1))], fun i => l.length - i.1⟩ ⟨0, Nat.zero_le _⟩ ?_ ?_
  · simp only [go_sem]; simp only [atS]
    try first | rfl | (and_intros <;> first | trivial | rfl | omega)
  · rintro ⟨i, (hi : i ≤ l.length)⟩; have hal := iB1 l n i
    (simp -implicitDefEqProofs (maxSteps := 4000000) only [go_sem, bP, con19, con32, con47, hT, hG, hk, hK, Tryz.results19])
    refine fun _ => ⟨fun hlt => ?_, fun hge => ?_⟩
    · have hi' : i < l.length := by omega
      have ekk : (i : Int).toNat = i := Int.toNat_natCast i
      have hst : atS l n (i + 1) = match lastO (l.getD i hy0).2 n with
       | none => atS l n i
       | some v => if (atS l n i).any (fun y => decide (v = y)) = true then atS l n i else putV (atS l n i) v := rfl
      obtain ⟨y, ey⟩ : ∃ y, l.getD i hy0 = y := ⟨_, rfl⟩; have ek : ∀ z, l.getD i z = y := fun z => by rw [← ey]; simp [hi']
      rw [ey] at hst; unfold lastO at hst; simp only [ekk, ek]; obtain ⟨yu, ⟨ys, yb⟩⟩ := y; dsimp only at hst ⊢; have eA : atS l n i = atS l n i := rfl; obtain ⟨A, hA⟩ : ∃ A, atS l n i = A := ⟨_, rfl⟩; rw [hA] at hst hal; obtain ⟨w, hw⟩ : ∃ w, ys.getD n.toNat [] = w := ⟨_, rfl⟩; rw [hw] at hst; have el : ((w.length : Int) - 1).toNat = w.length - 1 := by omega
      simp only [hA, hw, el]; by_cases hc : n < 0 ∨ (ys.length : Int) ≤ n ∨ w.length = 0
      · rw [if_pos hc] at hst; dsimp only at hst
        (repeat' with_reducible first | refine And.intro ?_ ?_ | intro _) <;> try first | with_reducible (first | assumption | omega | contradiction) | decide
        all_goals first
         | omega
         | (refine dA0 ⟨i + 1, by omega⟩ ?_ (by dsimp only; omega)
            simp only [go_sem]; rw [hst]
            try first | rfl | (and_intros <;> first | trivial | rfl | omega)
            done)
      · rw [if_neg hc] at hst; dsimp only at hst; generalize w.getD (w.length - 1) 0 = v at *
        (repeat' with_reducible first | refine And.intro ?_ ?_ | intro _) <;> try first | with_reducible (first | assumption | omega | contradiction) | decide
        all_goals first
         | omega
         | (rw [if_pos (by assumption)] at hst
            refine dA0 ⟨i + 1, by omega⟩ ?_ (by dsimp only; omega); simp only [go_sem]; rw [hst]
            try first | rfl | (and_intros <;> first | trivial | rfl | omega)
            done)
         | (rw [if_neg (by simp only [Bool.not_eq_true]; assumption)] at hst
            refine dA0 ⟨i + 1, by omega⟩ ?_ (by dsimp only; omega); simp only [go_sem]; rw [hst]
            try first | rfl | (and_intros <;> first | trivial | rfl | omega)
            done)
    · rw [show i = l.length by omega])
def con95 : Con := { ps := [.d true yLY, .d true yP2, .nl, .nl], rs := [.d false yI, .d false .bool], pre := fun _ => True, out := fun _ => (0, true, ()), nw := id }
theorem c95 : CtrOk Tryz.prog 95 con95.ctr :=
 aA0 eA0 eN rfl Tryz.func95 rfl con95 4295114559 (by kernel_rfl) (by decide) (by decide) rfl (by decide) rfl (by
  rintro ⟨⟨(ns : List Nd), (ds : List Dv)⟩, ⟨(sl : List (List Int)), (bn : List (List Int))⟩, _⟩ hpre hwf X hT hG hk hK
  (simp -implicitDefEqProofs (maxSteps := 4000000) only [go_sem, bP, con95, hT, hG, hk, hK, Tryz.results95] at hwf ⊢); (try simp (disch := decide +kernel) only [drawn, true_and, and_true])
  clear hwf; refine cA0 ⟨Unit, 1000, fun _ => [(3, .one .nilsl), (10, .one (.int .i64 0)), (11, .one (.int .i64 0))], fun _ => [], fun _ => 0⟩ () ?_ ?_
  · simp only [go_sem]
    try first | rfl | (and_intros <;> first | trivial | rfl | omega)
  · rintro ⟨⟩
    (simp -implicitDefEqProofs (maxSteps := 4000000) only [go_sem, bP, con95, hT, hG, hk, hK, Tryz.results95]); (try simp (disch := decide +kernel) only [drawn, true_and, and_true])
    exact fun _ h => by exfalso; omega)
def brkV (br : List Bool) (n : Int) : Bool := decide (n < br.length) && br.getD n.toNat false
def con110 : Con := { ps := [.d false (.sl .bool), .d false yI], rs := [.d false .bool], pre := fun (x : List Bool × Int × Unit) => 0 ≤ x.2.1, out := fun (x : List Bool × Int × Unit) => (brkV x.1 x.2.1, ()), nw := id }
theorem c110 : CtrOk Tryz.prog 110 con110.ctr :=
 aA0 eA0 eN rfl Tryz.func110 rfl con110 19 (by kernel_rfl) (by decide) (by decide) rfl (by decide) rfl (by
  rintro ⟨(br : List Bool), (n : Int), _⟩ hpre hwf X hT hG hk hK; have h0 : 0 ≤ n := hpre
  (simp -implicitDefEqProofs (maxSteps := 4000000) only [go_sem, bP, con110, hT, hG, hk, hK, Tryz.results110] at hwf ⊢)
  clear hwf
  (repeat' with_reducible first | refine And.intro ?_ ?_ | intro _) <;> try first | with_reducible (first | assumption | omega | contradiction) | decide
  all_goals first
   | omega
   | rfl)
def bestE (len : Int) (ok : Int → Bool) (d : Int → Int) : List Int → Int → Int
 | [], b => b
 | x :: xs, b => bestE len ok d xs (if ok x = true ∧ (b < 0 ∨ d x + len < b) then d x + len else b)
theorem oA7 {len : Int} {ok ok' : Int → Bool} {d d' : Int → Int} : ∀ (l : List Int) (b : Int), (∀ x ∈ l, ok x = ok' x ∧ (ok x = true → d x = d' x)) → bestE len ok d l b = bestE len ok' d' l b
 | [], _, _ => rfl
 | x :: l, b, h => by
   obtain ⟨h1, h2⟩ := h x List.mem_cons_self; unfold bestE; rw [oA7 l _ fun y hy => h y (List.mem_cons_of_mem _ hy), ← h1]; congr 1; by_cases e : ok x = true
   · rw [h2 e]
   · rw [if_neg (fun q => e q.1), if_neg (fun q => e q.1)]
def goX (ns : List Nd) (tg n x : Int) : Bool := decide (x ≠ n) && (decide (x = tg) || strN (ns.getD x.toNat nd0).2.1)
def dstF (ns : List Nd) (br : List Bool) (tg : Int) : Nat → Int → Int
 | 0, _ => -1
 | f + 1, n => if brkV br n = true then -1 else if n = tg then 0
   else bestE (ns.getD n.toNat nd0).2.2.1 (fun x => goX ns tg n x && decide (0 ≤ dstF ns br tg f x)) (dstF ns br tg f) (ns.getD n.toNat nd0).2.2.2.2 (-1)
theorem GoodL.fwd {ds : List Dv} {ns : List Nd} (hg : GoodL (ns, ds)) {n : Nat} (hn : n < ns.length) {x : Int} (hx : x ∈ (ns.getD n nd0).2.2.2.2) (h : x ≠ n) : (n : Int) < x ∧ x < ns.length := by
 obtain ⟨q, hq, rfl⟩ := List.getElem_of_mem hx; have := (hg.nd n hn).fw q _ (List.getElem?_eq_getElem hq); dsimp only at this; omega
theorem jB0 {ds : List Dv} {ns : List Nd} (hg : GoodL (ns, ds)) {br : List Bool} {tg : Int} : ∀ (f : Nat) (n : Nat), n < ns.length → ns.length - n ≤ f → dstF ns br tg (f + 1) n = dstF ns br tg f n
 | 0, n, hn, h => by omega
 | f + 1, n, hn, h => by
   have enn : (n : Int).toNat = n := Int.toNat_natCast n; rw [dstF, dstF.eq_def ns br tg (f + 1) n]; dsimp only; rw [enn]; split
   · rfl
   · split
     · rfl
     · refine oA7 _ _ fun x hx => ?_; by_cases e : x = (n : Int)
       · have : goX ns tg n x = false := by unfold goX; simp [e]
         try dsimp only
         rw [this]; exact ⟨rfl, fun h => by cases h⟩
       · have hf := hg.fwd hn hx e; obtain ⟨q, rfl⟩ : ∃ q : Nat, x = q := ⟨x.toNat, by omega⟩; have ih := jB0 hg (br := br) (tg := tg) f q (by omega) (by omega)
         try dsimp only
         rw [ih]; exact ⟨rfl, fun _ => rfl⟩
def dstV (ns : List Nd) (br : List Bool) (tg : Int) (n : Int) : Int := dstF ns br tg ns.length n
theorem jC0 {ds : List Dv} {ns : List Nd} (hg : GoodL (ns, ds)) {br : List Bool} {tg : Int} {n : Nat} (hn : n < ns.length) : dstV ns br tg n = if brkV br n = true then -1 else if (n : Int) = tg then 0
 else bestE (ns.getD n nd0).2.2.1 (fun x => goX ns tg n x && decide (0 ≤ dstV ns br tg x)) (dstV ns br tg) (ns.getD n nd0).2.2.2.2 (-1) := by
 have enn : (n : Int).toNat = n := Int.toNat_natCast n; have h := jB0 hg (br := br) (tg := tg) ns.length n hn (by omega); unfold dstV; rw [← h, dstF, enn]
end Go.Proofs.YtabadacjbkhmkaaGreatDoor
