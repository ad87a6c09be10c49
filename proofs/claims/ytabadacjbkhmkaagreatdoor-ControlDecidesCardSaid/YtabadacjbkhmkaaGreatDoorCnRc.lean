/- Part. -/
import Derived.Test.YtabadacjbkhmkaaGreatDoorCnTToRb
import Derived.Test.YtabadacjbkhmkaaGreatDoorEvRwToO
set_option linter.all false
set_option maxRecDepth 100000
set_option maxHeartbeats 8000000
namespace Go.Proofs.YtabadacjbkhmkaaGreatDoor
open Go.Ev
attribute [local go_sem] List.set_cons_succ List.set_cons_zero List.getD_cons_succ List.getD_cons_zero List.set_nil
def mm0 (n : Nat) : List (List Int) := (List.range n).map (fun _ => (List.range n).map (fun _ => (-2 : Int)))
theorem mD3 (ns : List Nd) (br : List Bool) {tg : Int} (ht : tg.toNat < ns.length) : MmOk ns br tg (mm0 ns.length) := by
 have e : ∀ i, i < ns.length → (mm0 ns.length).getD i [] = (List.range ns.length).map (fun _ => (-2 : Int)) := fun i hi => by simp [mm0, hi]
 refine ⟨by simp [mm0], fun i hi => by rw [e i hi]; simp, fun i hi => .inl (by rw [e i hi]; simp [ht])⟩
def mmR (n k : Nat) : List Int := updL (fun _ => (-2 : Int)) (fun _ => 0) n k
def mmA (n i : Nat) : List (List Int) := updL (fun _ => mmR n n) (fun _ => []) n i
theorem pD1 {n k : Nat} (h : k < n) : (mmR n k).set k (-2) = mmR n (k + 1) := mA5 h
theorem hC9 {n i : Nat} (h : i < n) : (mmA n i).set i (mmR n n) = mmA n (i + 1) := mA5 h
theorem wC8 (n : Nat) : mmA n n = mm0 n := by
 unfold mmA mmR mm0; rw [dB2, dB2]
theorem sC7 (n : Nat) : mmA n 0 = List.replicate n [] := by
 unfold mmA updL; apply List.ext_getElem (by simp); intro i h1 h2; simp
theorem qC5 (n : Nat) : mmR n 0 = List.replicate n 0 := nB6
theorem bC4 (n k : Nat) : (mmR n k).length = n := fB2 _ _ _ _
theorem xC8 (n k : Nat) : (mmA n k).length = n := fB2 _ _ _ _
def wysG (ns : List Nd) (ds : List Dv) (br : List Bool) (fr : Nat) : Heap := [(fr, .cells 35 [.row (fr + 4)]), (fr + 1, .cells 23 [.sl .bool br false]), (fr + 2, .cells 30 [.sl yNO ns false, .sl yPL ds false]), (fr + 3, .cells 76 [.fn 150 [.loc fr 0, .loc (fr + 1) 0, .loc (fr + 2) 0, .loc (fr + 3) 0]]), (fr + 4, .rowg 22 (.sl yI) 0 (fr + 5) (List.replicate ns.length []) none), (fr + 5, .fam 3 yI (mm0 ns.length))]
def wysN (ns : List Nd) (ds : List Dv) (br : List Bool) : Heap := [(0, .cells 35 [.row 36]), (1, .cells 23 [.sl .bool br false]), (2, .cells 30 [.sl yNO ns false, .sl yPL ds false]), (3, .cells 76 [.fn 150 [.loc 32 0, .loc 33 0, .loc 34 0, .loc 35 0]]), (4, .rowg 22 (.sl yI) 0 37 (List.replicate ns.length []) none), (5, .fam 3 yI (mm0 ns.length))]
def wysE (fr : Nat) : Option (List Nd) → Option (List Dv) → Option (List Bool) → Eff
 | some ns, some ds, some br => ⟨ns.length ≤ 24, .one (.fn 150 [.loc fr 0, .loc (fr + 1) 0, .loc (fr + 2) 0, .loc (fr + 3) 0]), wysG ns ds br fr, True⟩
 | _, _, _ => bad
def wysC : Ctr := fun avs _ fr => match avs with
 | [.agg [.sl t ns _, .sl u ds _], .one (.sl q br _)] => wysE fr (castTy t yNO ns) (castTy u yPL ds) (castTy q .bool br)
 | _ => bad
def con131 : RawT := ⟨wysC⟩
attribute [local go_sem] rawPost resS oldH newH wysN
theorem fC5 (ns : List Nd) (ds : List Dv) (br : List Bool) (hn24 : ns.length ≤ 24) {c : Code} (hc : Tryz.f131.body = some c) (X : Wk) (hT : X.T = tab) (hG : X.G = ⟨[], [], [(14, 11), (28, 10), (36, 10)], [], []⟩) (hk : X.ks = 3758556159)
 (hK : X.K = rawPost tab Tryz.f131.results.toList [] (fun _ : Unit => True) (fun _ => [.one (.fn 150 [.loc 32 0, .loc 33 0, .loc 34 0, .loc 35 0])]) (fun _ => []) (fun _ => wysN ns ds br)) :
 evk X c [(0, .agg [.sl yNO ns false, .sl yPL ds false]), (1, .one (.sl .bool br false))] [] 32 [] := by
 cases hc
 (simp -implicitDefEqProofs (maxSteps := 4000000) only [go_sem, bP, con131, hT, hG, hk, hK, Tryz.results131]); (try simp (disch := decide +kernel) only [drawn, true_and, and_true])
 have hlr : (List.replicate (ns.length : Int).toNat ([] : List Int)).length = ns.length := by rw [List.length_replicate]; omega
 refine fun _ => ⟨⟨by omega, by omega, by omega⟩, fun _ => ?_⟩; refine cA0 ⟨{ i : Nat // i ≤ ns.length }, 1000, fun i => [(2, .one (.loc 64 0)), (3, .one (.loc 65 0)), (5, .one (.int .i64 ns.length)), (6, .one (.loc 66 0)), (16, .one (.int .i64 ns.length)), (17, .one (.int .i64 (i.1 : Int)))], fun i => [(64, .cells 30 [.sl yNO ns false, .sl yPL ds false]), (65, .cells 23 [.sl .bool br false]), (66, .cells 35 [.row 67]), (67, .rowg 22 (.sl yI) 0 68 (List.replicate ns.length []) none), (68, .fam 3 yI (mmA ns.length i.1))], fun i => ns.length - i.1⟩ ⟨0, Nat.zero_le _⟩ ?_ ?_
 · simp only [go_sem]; simp only [sC7, hlr, Int.toNat_natCast, List.length_replicate]
   try first | rfl | (and_intros <;> first | trivial | rfl | omega)
 · rintro ⟨i, (hi : i ≤ ns.length)⟩
   (simp -implicitDefEqProofs (maxSteps := 4000000) only [go_sem, bP, con131, hT, hG, hk, hK, Tryz.results131]); (try simp (disch := decide +kernel) only [drawn, true_and, and_true])
   refine ⟨fun hlt => ?_, fun hge => ?_⟩
   · have hi' : i < ns.length := by omega
     have eii : (i : Int).toNat = i := Int.toNat_natCast i; have hAl := xC8 ns.length i; have hg0 : ∀ (r z : List Int), ((mmA ns.length i).set i r).getD i z = r := fun r z => by
      rw [gdE, List.getElem?_set_self (by omega)]; rfl
     simp only [List.length_replicate, eii, hg0, Int.toNat_natCast, ← qC5]; refine ⟨⟨by omega, by omega, by omega⟩, ⟨by omega, by omega⟩, fun _ => ⟨by first | exact ⟨rfl, by omega⟩ | exact ⟨trivial, by omega⟩, ⟨by omega, by omega⟩, fun _ => ⟨⟨by omega, by omega⟩, fun _ => ?_⟩⟩⟩; refine cA0 ⟨{ k : Nat // k ≤ ns.length }, 2000, fun k => [(2, .one (.loc 64 0)), (3, .one (.loc 65 0)), (5, .one (.int .i64 ns.length)), (6, .one (.loc 66 0)), (7, .one (.int .i64 (i : Int))), (16, .one (.int .i64 ns.length)), (17, .one (.int .i64 (i : Int))), (29, .one (.int .i64 ns.length)), (30, .one (.int .i64 (k.1 : Int)))], fun k => [(64, .cells 30 [.sl yNO ns false, .sl yPL ds false]), (65, .cells 23 [.sl .bool br false]), (66, .cells 35 [.row 67]), (67, .rowg 22 (.sl yI) 0 68 (List.replicate ns.length []) none), (68, .fam 3 yI ((mmA ns.length i).set i (mmR ns.length k.1)))], fun k => ns.length - k.1⟩ ⟨0, Nat.zero_le _⟩ ?_ ?_
     · simp only [go_sem]; simp only [bC4, List.length_replicate]
       try first | rfl | (and_intros <;> first | trivial | rfl | omega)
     · rintro ⟨k, (hk1 : k ≤ ns.length)⟩; have ekk : (k : Int).toNat = k := Int.toNat_natCast k; have hRl := bC4 ns.length k
       (simp -implicitDefEqProofs (maxSteps := 4000000) only [go_sem, bP, con131, hT, hG, hk, hK, Tryz.results131]); (try simp (disch := decide +kernel) only [drawn, true_and, and_true])
       simp only [List.length_replicate, eii, hg0, ekk]; refine ⟨fun hlt2 => ?_, fun hge2 => ?_⟩
       · have hst := pD1 (show k < ns.length by omega); simp only [hRl, List.set_set, hst]
         (repeat' with_reducible first | refine And.intro ?_ ?_ | intro _) <;> try first | with_reducible (first | assumption | omega | contradiction) | decide
         all_goals first
          | omega
          | (refine dA0 ⟨k + 1, by omega⟩ ?_ (by dsimp only; omega)
             simp only [go_sem]; rfl
             done)
       · have hst := hC9 hi'; have : k = ns.length := by omega
         subst this; rw [hst]; refine ⟨⟨by omega, by omega⟩, ?_⟩; refine dA0 ⟨i + 1, by omega⟩ ?_ (by dsimp only; omega); simp only [go_sem]; rfl
   · rw [show i = ns.length by omega, wC8]; exact ⟨(), rfl⟩
theorem iD0 {x : Rx} {t u : Ty} {xs : List t.den} {ys : List u.den} {f g : Bool} {v : Value} (h : repA x (.agg [.sl t xs f, .sl u ys g]) v) : repA x (.agg [.sl t xs false, .sl u ys false]) v := pC0 h
theorem eC9 {x : Rx} {t : Ty} {xs : List t.den} {f : Bool} {v : Value} (h : repA x (.one (.sl t xs f)) v) : repA x (.one (.sl t xs false)) v := by
 unfold repA repC at h ⊢; exact ⟨h.1, fun q => by cases q⟩
theorem c131 : CtrOk Tryz.prog 131 con131.ctr := by
 intro D gv hDS cx hcd σ N m w fr avs vs hM hfr hreps hp; show Calls _ _ _ _ _
 change (wysC avs m fr).pre at hp
 show Calls Tryz.prog 131 vs.toArray w fun e w' => ∃ v, e = .returned v ∧ Res cx σ N m w fr (wysC avs m fr) v w'; unfold wysC at hp ⊢; split at hp
 · rename_i t ns f1 u ds f2 q br f3; unfold castTy at hp ⊢; by_cases ht : t = yNO
   · by_cases hu : u = yPL
     · by_cases hq : q = .bool
       · subst ht; subst hu; subst hq; simp only [dif_pos] at hp ⊢
         change ns.length ≤ 24 at hp
         simp only [repAs] at hreps; obtain ⟨v0, r0, rfl, k0, v1, r1, rfl, k1, rfl⟩ := hreps; have k0 := iD0 k0; have k1 := eC9 k1; refine (cB2 eA0 rfl Tryz.func131 rfl 3758556159 (G := ⟨[], [], [(14, 11), (28, 10), (36, 10)], [], []⟩) (by kernel_rfl) (by decide) (hcd.1.symm ▸ hcd.2.symm ▸ EnvOk.nil.at_ hDS) hM hfr (by show 2 ≤ Tryz.f131.ntmps; decide) [] List.nodup_nil List.nodup_nil (fun p hp => (by cases hp)) [] (fun p hp => (by cases hp)) (fun p hp => (by cases hp)) [(0, .agg [.sl yNO ns false, .sl yPL ds false]), (1, .one (.sl .bool br false))] [] (fun i h => absurd rfl h) ?_ (Y := Unit) (fun _ => True) (fun _ => [.one (.fn 150 [.loc 32 0, .loc 33 0, .loc 34 0, .loc 35 0])]) (fun _ => []) (fun _ => wysN ns ds br) ?_ ?_).mono ?_
         · intro x1 hw hO hl; have hkp : Keep (rx cx σ N m w).w x1.w (rx cx σ N m w).O x1.O := keepsw (x := rx cx σ N m w) (y := x1) hw (fun b hb => hO b hb); refine ⟨fun i id h => (by cases h), fun j v hj => ?_⟩; simp only [List.mem_cons, List.not_mem_nil, or_false, Prod.mk.injEq] at hj
           rcases hj with ⟨rfl, rfl⟩ | ⟨rfl, rfl⟩
           · exact qA7 (OK := fun _ => False) (ρ := id) hkp (fun k hk => hk.elim) _ _ (fun k hk => by simp [idsA, idsCs, idsC] at hk) k0
           · exact qA7 (OK := fun _ => False) (ρ := id) hkp (fun k hk => hk.elim) _ _ (fun k hk => by simp [idsA, idsCs, idsC] at hk) k1
         · intro _ _; refine ⟨rfl, rfl, by show [0, 1, 2, 3, 4, 5].Nodup; decide, fun p hp => ?_, fun k hk => ?_, fun b hb => (by cases hb), fun p hp => ?_⟩
           · simp only [wysN, List.mem_cons, List.not_mem_nil, or_false] at hp
             rcases hp with rfl | rfl | rfl | rfl | rfl | rfl <;> (dsimp only; decide)
           · simp [idsAs, idsA, idsCs, idsC] at hk
             rcases hk with rfl | rfl | rfl | rfl <;> rfl
           · simp only [wysN, List.mem_cons, List.not_mem_nil, or_false] at hp
             rcases hp with rfl | rfl | rfl | rfl | rfl | rfl <;> (intro k hk; simp [idsX, idsB, fidB, idsCs, idsC] at hk)
             · subst hk; rfl
             · rcases hk with rfl | rfl | rfl | rfl <;> rfl
             · subst hk; rfl
         · intro X hT hG hk hK; exact fC5 ns ds br hp rfl X hT hG hk hK
         · rintro e w' ⟨u, rfl, _, _, hres⟩; exact ⟨u, rfl, hres⟩
       · simp only [dif_pos ht, dif_pos hu, dif_neg hq] at hp; exact hp.elim
     · simp only [dif_pos ht, dif_neg hu] at hp; exact hp.elim
   · simp only [dif_neg ht] at hp; exact hp.elim
 · exact hp.elim
theorem cWays : ∀ k, CtrOk Tryz.prog 150 (conWay k).ctr
 | 0 => zWay
 | k + 1 => sWay k (cWays k)
def conWay24 : RawT := ⟨wayC 24⟩
theorem cWay24 : CtrOk Tryz.prog 150 conWay24.ctr := cWays 24
attribute [local go_sem] wayC wayH wayG wayF wayE wysC wysE wysG
theorem hB8 {len : Int} {ok : Int → Bool} {d : Int → Int} (h : ∀ x, ok x = true → 0 ≤ d x) : ∀ (l : List Int) (b : Int), (b < 0 ∨ len ≤ b) → bestE len ok d l b < 0 ∨ len ≤ bestE len ok d l b
 | [], b, hb => hb
 | x :: l, b, hb => by
   unfold bestE; refine hB8 h l _ ?_; split
   · rename_i hc; have := h x hc.1; omega
   · exact hb
theorem wC4 {ds : List Dv} {ns : List Nd} (hg : GoodL (ns, ds)) {br : List Bool} {tg : Int} {n : Nat} (hn : n < ns.length) (hne : ¬ (n : Int) = tg) : dstV ns br tg n < 0 ∨ (ns.getD n nd0).2.2.1 ≤ dstV ns br tg n := by
 rw [jC0 hg hn]; split
 · left; decide
 · try rw [if_neg hne]
   refine hB8 (fun x hx => ?_) _ _ (.inl (by decide)); rw [Bool.and_eq_true, decide_eq_true_eq] at hx; exact hx.2
def con107 : Con := { ps := [.d true yLY, .d false (.sl .bool), .d false yI, .d false yI], rs := [.d false yI], pre := fun (x : Ly × List Bool × Int × Int × Unit) => GoodL x.1, out := fun (x : Ly × List Bool × Int × Int × Unit) => (extV x.1.1 x.2.1 x.2.2.1 x.2.2.2.1, ()), nw := id }
theorem c107 : CtrOk Tryz.prog 107 con107.ctr :=
 aA0 eA0 (eC c130 has130 (eC c131 has131 (eC c132 has132 (eC cWay24 has150 eN)))) rfl Tryz.func107 rfl con107 1180596125347839229727 (by kernel_rfl) (by decide) (by decide) rfl (by decide) rfl (by
  rintro ⟨⟨(ns : List Nd), (ds : List Dv)⟩, (br : List Bool), (fr : Int), (tg : Int), _⟩ hpre hwf X hT hG hk hK; have hg : GoodL (ns, ds) := hpre
  (simp -implicitDefEqProofs (maxSteps := 4000000) only [go_sem, bP, con107, con130, con131, con132, conWay24, hT, hG, hk, hK, Tryz.results107] at hwf ⊢)
  clear hwf; have hn24 : ns.length ≤ 24 := hg.n24; have hbd := zB1 hg br tg; have hev : extV ns br fr tg = if askV ns fr tg = true ∧ 0 ≤ dstV ns br tg fr ∧ fr ≠ tg then idxV (exX ns br fr tg) (ns.getD fr.toNat nd0).2.2.2.2 else -1 := rfl
  refine ⟨hg, fun h => ?_, fun ⟨ha, hne⟩ => ?_⟩
  · rw [hev, if_neg]; rintro ⟨h1, _, h2⟩; exact h.elim (fun e => by rw [e] at h1; cases h1) h2
  · have hask := ha; unfold askV at hask; simp only [Bool.and_eq_true, decide_eq_true_eq, Bool.not_eq_true'] at hask; obtain ⟨⟨f1, f2⟩, ⟨t1, t2⟩, t3⟩ := hask; obtain ⟨n, rfl⟩ : ∃ n : Nat, fr = n := ⟨fr.toNat, by omega⟩; have hn : n < ns.length := by omega
    have enn : (n : Int).toNat = n := Int.toNat_natCast n; obtain ⟨y, ey⟩ : ∃ y, ns.getD n nd0 = y := ⟨_, rfl⟩; have ek : ∀ z, ns.getD n z = y := fun z => by rw [← ey]; simp [hn]
    have hl8 := len8 hg n; have hbn := hbd n; have hbest := wC4 hg (br := br) (tg := tg) hn hne; rw [ey] at hl8 hbest; rw [enn, ey, ha] at hev; have hm0 := mD3 ns br (tg := tg) (by omega); have hPw : ∀ (x : Int) (N : List (List Int)), 0 ≤ x → x < ns.length → MmOk ns br tg N → wayP 24 ns ds br x tg ns.length N := fun x N h0 h1 hN => ⟨hg, hN, ⟨h0, h1⟩, ⟨t1, t2⟩, t3, rfl, by omega⟩; have hfd : ∀ x ∈ y.2.2.2.2, 0 ≤ x ∧ x < ns.length := fun x hx => by
     by_cases e : x = (n : Int)
     · exact ⟨by omega, by omega⟩
     · have := hg.fwd hn (by rw [ey]; exact hx) e; exact ⟨by omega, by omega⟩
    simp only [enn, ek, List.length_replicate]; refine ⟨hn24, hPw _ _ (by omega) (by omega) hm0, ⟨by omega, by omega⟩, fun _ _ _ => ?_⟩; refine cA0 ⟨{ q : Nat × List (List Int) // q.1 ≤ y.2.2.2.2.length ∧ MmOk ns br tg q.2 ∧ ∀ j (h : j < y.2.2.2.2.length), j < q.1 → 0 ≤ dstV ns br tg n → exX ns br n tg y.2.2.2.2[j] = false }, 1000, fun q => [(2, .one (.int .i64 n)), (3, .one (.int .i64 tg)), (4, .one (.loc 64 0)), (9, .one (.fn 150 [.loc 65 0, .loc 66 0, .loc 67 0, .loc 68 0])), (10, .one (.int .i64 (dstV ns br tg n))), (36, .one (.sl yI y.2.2.2.2 false)), (37, .one (.int .i64 y.2.2.2.2.length)), (38, .one (.int .i64 (q.1.1 : Int)))], fun q => [(64, .cells 30 [.sl yNO ns false, .sl yPL ds false]), (65, .cells 35 [.row 69]), (66, .cells 23 [.sl .bool br false]), (67, .cells 30 [.sl yNO ns false, .sl yPL ds false]), (68, .cells 76 [.fn 150 [.loc 65 0, .loc 66 0, .loc 67 0, .loc 68 0]]), (69, .rowg 22 (.sl yI) 0 70 (List.replicate ns.length []) none), (70, .fam 3 yI q.1.2)], fun q => y.2.2.2.2.length - q.1.1⟩ ⟨(0, mmF ns br tg 24 n (mm0 ns.length)), Nat.zero_le _, pB7 hg (by omega) _ _ _ hn hm0, fun j h hj => absurd hj (Nat.not_lt_zero _)⟩ ?_ ?_
    · simp only [go_sem]; rfl
    · rintro ⟨⟨k, N⟩, (hk1 : k ≤ y.2.2.2.2.length), (hN : MmOk ns br tg N), (hz : ∀ j (h : j < y.2.2.2.2.length), j < k → 0 ≤ dstV ns br tg n → exX ns br n tg y.2.2.2.2[j] = false)⟩
      (simp -implicitDefEqProofs (maxSteps := 4000000) only [go_sem, bP, con107, con130, con131, con132, conWay24, hT, hG, hk, hK, Tryz.results107])
      simp only [enn, ek, List.length_replicate]; have ekk : (k : Int).toNat = k := Int.toNat_natCast k; refine ⟨fun hlt => ?_, fun hge => ?_⟩
      · have hk2 : k < y.2.2.2.2.length := by omega
        have ejk : ∀ z, y.2.2.2.2.getD k z = y.2.2.2.2[k] := fun z => by simp [hk2]
        have hfx := hfd _ (List.getElem_mem hk2); have hat := fun h (h0 : 0 ≤ dstV ns br tg n) => vA1 (p := exX ns br n tg) hk2 h (fun j hj => hz j (by omega) hj h0); have hnx : (0 ≤ dstV ns br tg n → exX ns br n tg y.2.2.2.2[k] = false) → ∀ j (h : j < y.2.2.2.2.length), j < k + 1 → 0 ≤ dstV ns br tg n → exX ns br n tg y.2.2.2.2[j] = false := fun h j hj hjk h0 => by
         by_cases e : j = k
         · subst e; exact h h0
         · exact hz j hj (by omega) h0
        simp only [ekk, ejk]; generalize y.2.2.2.2[k] = x at *; have hbx := hbd x; have hxe : exX ns br n tg x = (goX ns tg n x && decide (dstV ns br tg x = dstV ns br tg n - y.2.2.1)) := by
         unfold exX goX; rw [enn, ey]; cases decide (x ≠ (n : Int)) <;> cases decide (dstV ns br tg x = dstV ns br tg n - y.2.2.1) <;> cases (decide (x = tg) || strN (ns.getD x.toNat nd0).2.1) <;> rfl
        have hNx : MmOk ns br tg (mmF ns br tg 24 x.toNat N) := pB7 hg (by omega) 24 x.toNat N (by omega) hN
        (repeat' with_reducible first | refine And.intro ?_ ?_ | intro _) <;> try first | with_reducible (first | assumption | omega | contradiction) | decide
        all_goals first
         | omega
         | exact hPw _ _ (by omega) (by omega) hN
         | (obtain ⟨_, q⟩ : ¬ dstV ns br tg n < 0 ∧ goX ns tg n x = true := by assumption
            rw [hev, if_pos ⟨rfl, by omega, hne⟩, hat (by rw [hxe, q, decide_eq_true (by omega)]; rfl) (by omega)]
            done)
         | (obtain ⟨_, q⟩ : ¬ dstV ns br tg n < 0 ∧ goX ns tg n x = true := by assumption
            refine dA0 ⟨(k + 1, mmF ns br tg 24 x.toNat N), by dsimp only; omega, hNx, hnx (fun h0 => by rw [hxe, q, decide_eq_false (by omega)]; rfl)⟩ ?_ (by dsimp only; omega); simp only [go_sem]
            try rfl
            done)
         | (have q : dstV ns br tg n < 0 ∨ goX ns tg n x = false := by assumption
            refine dA0 ⟨(k + 1, N), by dsimp only; omega, hN, hnx (fun h0 => by rw [hxe, q.resolve_left (by omega)]; rfl)⟩ ?_ (by dsimp only; omega); simp only [go_sem]
            try rfl
            done)
      · rw [hev]; by_cases h0 : 0 ≤ dstV ns br tg n
        · rw [if_pos ⟨rfl, h0, hne⟩, mA1 fun j hj => hz j hj (by omega) h0]
        · rw [if_neg (fun q => h0 q.2.1)])
end Go.Proofs.YtabadacjbkhmkaaGreatDoor
