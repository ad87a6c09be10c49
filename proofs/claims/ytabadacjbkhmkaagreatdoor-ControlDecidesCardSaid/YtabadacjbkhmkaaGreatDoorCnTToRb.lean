/- Part. -/
import Derived.Test.YtabadacjbkhmkaaGreatDoorEvNst2ToS
import Derived.Test.YtabadacjbkhmkaaGreatDoorEvRwToO
set_option linter.all false
set_option maxRecDepth 100000
set_option maxHeartbeats 8000000
namespace Go.Proofs.YtabadacjbkhmkaaGreatDoor
open Go.Ev
theorem bB1 {len M : Int} {ok : Int → Bool} {d : Int → Int} (hl : 0 ≤ len) (h : ∀ x, ok x = true → 0 ≤ d x ∧ d x + len ≤ M) : ∀ (l : List Int) (b : Int), -1 ≤ b → b ≤ M → -1 ≤ bestE len ok d l b ∧ bestE len ok d l b ≤ M
 | [], b, h1, h2 => ⟨h1, h2⟩
 | x :: l, b, h1, h2 => by
   unfold bestE; split
   · rename_i hc; have := h x hc.1; exact bB1 hl h l _ (by omega) this.2
   · exact bB1 hl h l b h1 h2
theorem len8 {ds : List Dv} {ns : List Nd} (hg : GoodL (ns, ds)) (n : Nat) : 0 ≤ (ns.getD n nd0).2.2.1 ∧ (ns.getD n nd0).2.2.1 ≤ 8 := by
 by_cases h : n < ns.length
 · rw [gA5 h]; exact hg.le8 _ (List.getElem_mem h)
 · rw [gdE, List.getElem?_eq_none (by omega)]; decide
theorem cC8 {ds : List Dv} {ns : List Nd} (hg : GoodL (ns, ds)) {br : List Bool} {tg : Int} : ∀ (f : Nat) (n : Int), -1 ≤ dstF ns br tg f n ∧ dstF ns br tg f n ≤ 8 * f
 | 0, n => by rw [dstF]; omega
 | f + 1, n => by
   have hl := len8 hg n.toNat; rw [dstF]; split
   · omega
   · split
     · omega
     · refine bB1 hl.1 (fun x hx => ?_) _ _ (by omega) (by omega); rw [Bool.and_eq_true, decide_eq_true_eq] at hx; have := cC8 hg (br := br) (tg := tg) f x; omega
theorem zB1 {ds : List Dv} {ns : List Nd} (hg : GoodL (ns, ds)) (br : List Bool) (tg n : Int) : -1 ≤ dstV ns br tg n ∧ dstV ns br tg n ≤ 192 := by
 have := cC8 hg (br := br) (tg := tg) ns.length n; have h24 : ns.length ≤ 24 := hg.n24; unfold dstV; omega
def dstL (ns : List Nd) (br : List Bool) (tg : Int) (i : Nat) : List Int := (List.range ns.length).map (fun k => if k < i then 0 else dstV ns br tg k)
theorem tB1 (ns : List Nd) (br : List Bool) (tg : Int) (i : Nat) : (dstL ns br tg i).length = ns.length := by simp [dstL]
theorem mB0 {ns : List Nd} {br : List Bool} {tg : Int} {i k : Nat} (h : k < ns.length) (hi : i ≤ k) (z : Int) : (dstL ns br tg i).getD k z = dstV ns br tg k := by
 simp [dstL, h, show ¬ k < i by omega]
theorem rC7 {ns : List Nd} {br : List Bool} {tg : Int} {n : Nat} (h : n < ns.length) : (dstL ns br tg (n + 1)).set n (dstV ns br tg n) = dstL ns br tg n := by
 apply List.ext_getElem (by simp [dstL]); intro i h1 h2; rw [List.getElem_set]; by_cases e : n = i
 · subst e; simp [dstL]
 · rw [if_neg e]; simp only [dstL, List.getElem_map, List.getElem_range]; by_cases q : i < n
   · rw [if_pos q, if_pos (by omega)]
   · rw [if_neg q, if_neg (by omega)]
theorem fC2 (ns : List Nd) (br : List Bool) (tg : Int) : dstL ns br tg ns.length = List.replicate ns.length 0 := by
 apply List.ext_getElem (by simp [dstL]); intro i h1 h2; simp [dstL] at h1 ⊢; omega
def con86 : Con := { ps := [.d true yLY, .d false (.sl .bool), .d false yI], rs := [.d false (.sl yI)], pre := fun (x : Ly × List Bool × Int × Unit) => GoodL x.1, out := fun (x : Ly × List Bool × Int × Unit) => (dstL x.1.1 x.2.1 x.2.2.1 0, ()), nw := id }
theorem c86 : CtrOk Tryz.prog 86 con86.ctr :=
 aA0 eA0 (eC c23 has23 (eC c80 has80 (eC c110 has110 eN))) rfl Tryz.func86 rfl con86 2596148584009918727190200832769999 (by kernel_rfl) (by decide) (by decide) rfl (by decide) rfl (by
  rintro ⟨⟨(ns : List Nd), (ds : List Dv)⟩, (br : List Bool), (tg : Int), _⟩ hpre hwf X hT hG hk hK; have hg : GoodL (ns, ds) := hpre
  (simp -implicitDefEqProofs (maxSteps := 4000000) only [go_sem, bP, con86, con23, con80, con110, hT, hG, hk, hK, Tryz.results86] at hwf ⊢); (try simp (disch := decide +kernel) only [drawn, true_and, and_true])
  clear hwf; have hn24 : ns.length ≤ 24 := hg.n24; have hul := dA4 0 ns.length; simp only [hul]; refine fun _ => ⟨⟨by omega, by omega, by omega⟩, hg, fun _ _ => ⟨by omega, ?_⟩⟩; refine cA0 ⟨{ i : Nat // i ≤ ns.length }, 1000, fun i => [(1, .one (.sl .bool br false)), (2, .one (.int .i64 tg)), (3, .one (.loc 64 0)), (7, .one (.row 65)), (8, .one (.sl yI (upL 0 ns.length) false)), (9, .one (.int .i64 ((i.1 : Int) - 1)))], fun i => [(64, .cells 30 [.sl yNO ns false, .sl yPL ds false]), (65, .row 3 yI (dstL ns br tg i.1))], fun i => i.1⟩ ⟨ns.length, Nat.le_refl _⟩ ?_ ?_
  · simp only [go_sem]; rw [fC2]; rfl
  · rintro ⟨i, (hi : i ≤ ns.length)⟩; have hdl := tB1 ns br tg i
    (simp -implicitDefEqProofs (maxSteps := 4000000) only [go_sem, bP, con86, con23, con80, con110, hT, hG, hk, hK, Tryz.results86]); (try simp (disch := decide +kernel) only [drawn, true_and, and_true])
    refine ⟨fun hge => ?_, fun hlt => ?_⟩
    · obtain ⟨n, rfl⟩ : ∃ n, i = n + 1 := ⟨i - 1, by omega⟩; have ej : ((n + 1 : Nat) : Int) - 1 = n := by omega
      have hn : n < ns.length := by omega
      have enn : (n : Int).toNat = n := Int.toNat_natCast n; have eo : ∀ z, (upL 0 ns.length).getD n z = n := fun z => by simp [upL, hn]
      have heq := jC0 hg (br := br) (tg := tg) hn; have hset := rC7 (br := br) (tg := tg) hn; obtain ⟨y, ey⟩ : ∃ y, ns.getD n nd0 = y := ⟨_, rfl⟩; have ek : ∀ z, ns.getD n z = y := fun z => by rw [← ey]; simp [hn]
      have hfw := (hg.nd n hn).fw; have hfd : ∀ x ∈ y.2.2.2.2, x ≠ (n : Int) → (n : Int) < x ∧ x < ns.length := fun x hx h => hg.fwd hn (by rw [ey]; exact hx) h; have h2l : y.2.2.2.2.length ≤ 2 := by
       have := hg.two ns[n] (List.getElem_mem hn); rw [gA5 hn] at ey; rw [← ey]; exact this
      have hl8 := len8 hg n; rw [ey] at heq hl8; simp only [ej, enn, eo, hul, hdl, List.length_set, List.set_set]
      (repeat' with_reducible first | refine And.intro ?_ ?_ | intro _) <;> try first | with_reducible (first | assumption | omega | contradiction) | decide
      all_goals first
       | omega
       | (rw [if_pos (by assumption)] at heq
          rw [heq] at hset; refine dA0 ⟨n, by omega⟩ ?_ (by dsimp only; omega); simp only [go_sem]; rw [hset]
          try first | rfl | (and_intros <;> first | trivial | rfl | omega)
          done)
       | (rw [if_neg (by simp only [Bool.not_eq_true]; assumption), if_pos (by assumption)] at heq
          rw [heq] at hset; refine dA0 ⟨n, by omega⟩ ?_ (by dsimp only; omega); simp only [go_sem]; rw [hset]
          try first | rfl | (and_intros <;> first | trivial | rfl | omega)
          done)
       | skip
      rw [if_neg (by simp only [Bool.not_eq_true]; assumption), if_neg (by assumption)] at heq; refine cA0 ⟨{ q : Nat × Int // q.1 ≤ y.2.2.2.2.length ∧ -1 ≤ q.2 ∧ q.2 ≤ 200 ∧ bestE y.2.2.1 (fun x => goX ns tg n x && decide (0 ≤ dstV ns br tg x)) (dstV ns br tg) (y.2.2.2.2.drop q.1) q.2 = dstV ns br tg n }, 2000, fun q => [(1, .one (.sl .bool br false)), (2, .one (.int .i64 tg)), (3, .one (.loc 64 0)), (7, .one (.row 65)), (8, .one (.sl yI (upL 0 ns.length) false)), (9, .one (.int .i64 n)), (10, .one (.int .i64 n)), (11, .one (.int .i64 q.1.1))], fun q => [(64, .cells 30 [.sl yNO ns false, .sl yPL ds false]), (65, .row 3 yI ((dstL ns br tg (n + 1)).set n q.1.2))], fun q => y.2.2.2.2.length - q.1.1⟩ ⟨(0, -1), Nat.zero_le _, by dsimp only; omega, by dsimp only; omega, by rw [heq]; rfl⟩ ?_ ?_
      · simp only [go_sem]; rfl
      · rintro ⟨⟨k, (b : Int)⟩, (hk0 : k ≤ y.2.2.2.2.length), (hb1 : -1 ≤ b), (hb2 : b ≤ 200), hz⟩; have hz : bestE y.2.2.1 (fun x => goX ns tg n x && decide (0 ≤ dstV ns br tg x)) (dstV ns br tg) (y.2.2.2.2.drop k) b = dstV ns br tg n := hz
        (simp -implicitDefEqProofs (maxSteps := 4000000) only [go_sem, bP, con86, con23, con80, con110, hT, hG, hk, hK, Tryz.results86]); (try simp (disch := decide +kernel) only [drawn, true_and, and_true])
        simp only [enn, ek, hdl, List.length_set, List.set_set]; have ekk : (k : Int).toNat = k := Int.toNat_natCast k; have egn : ∀ z, ((dstL ns br tg (n + 1)).set n b).getD n z = b := fun z => by simp [hdl, hn]
        by_cases hk' : k < y.2.2.2.2.length
        · have e5 : ∀ z, y.2.2.2.2.getD k z = y.2.2.2.2[k] := fun z => by simp [hk']
          have hfx := hfd y.2.2.2.2[k] (List.getElem_mem hk'); have hxr : 0 ≤ y.2.2.2.2[k] ∧ y.2.2.2.2[k] < ns.length := by
           by_cases e : y.2.2.2.2[k] = (n : Int)
           · omega
           · have := hfx e; omega
          rw [List.drop_eq_getElem_cons hk', bestE] at hz; simp only [ekk, e5, egn]; generalize y.2.2.2.2[k] = x at *; have hdx := zB1 hg br tg x; have egx : ∀ z, ¬ x = (n : Int) → ((dstL ns br tg (n + 1)).set n b).getD x.toNat z = dstV ns br tg x := fun z h => by
           have := hfx h; rw [getD_set_ne (by omega), mB0 (by omega) (by omega)]; rw [show ((x.toNat : Nat) : Int) = x by omega]
          obtain ⟨w, hw⟩ : ∃ w, ns.getD x.toNat nd0 = w := ⟨_, rfl⟩; have ewk : ∀ z, ns.getD x.toNat z = w := fun z => by rw [← hw]; simp [show x.toNat < ns.length by omega]
          simp only [ewk]; by_cases exn : x = (n : Int)
          · have hgo : goX ns tg n x = false := by unfold goX; simp [exn]
            rw [hgo, Bool.false_and, if_neg (fun h => by cases h.1)] at hz
            (repeat' with_reducible first | refine And.intro ?_ ?_ | intro _) <;> try first | with_reducible (first | assumption | omega | contradiction) | decide
            all_goals first
             | omega
             | contradiction
             | (refine dA0 ⟨(k + 1, b), by dsimp only; omega, hb1, hb2, hz⟩ ?_ (by dsimp only; omega)
                simp only [go_sem]
                try rfl
                done)
          · have egx := fun z => egx z exn; have hgo : goX ns tg n x = (decide (x = tg) || strN w.2.1) := by unfold goX; rw [hw]; simp [exn]
            rw [hgo] at hz; simp only [egx]; generalize dstV ns br tg x = dx at *
            cases hs : strN w.2.1 with
            | true =>
              simp only [hs, Bool.or_true, Bool.true_and, decide_eq_true_eq] at hz; simp only [hs, reduceCtorEq, and_false, or_false, and_true, or_true, Bool.true_eq_false]
              (repeat' with_reducible first | refine And.intro ?_ ?_ | intro _) <;> try first | with_reducible (first | assumption | omega | contradiction) | decide
              all_goals first
               | omega
               | (rw [if_pos (by omega)] at hz
                  refine dA0 ⟨(k + 1, dx + y.2.2.1), by dsimp only; omega, by dsimp only; omega, by dsimp only; omega, hz⟩ ?_ (by dsimp only; omega); simp only [go_sem]
                  try rfl
                  done)
               | (rw [if_neg (by omega)] at hz
                  refine dA0 ⟨(k + 1, b), by dsimp only; omega, hb1, hb2, hz⟩ ?_ (by dsimp only; omega); simp only [go_sem]
                  try rfl
                  done)
            | false =>
              simp only [hs, Bool.or_false, Bool.and_eq_true, decide_eq_true_eq] at hz; simp only [hs, reduceCtorEq, and_false, or_false, and_true, or_true, Bool.false_eq_true]
              (repeat' with_reducible first | refine And.intro ?_ ?_ | intro _) <;> try first | with_reducible (first | assumption | omega | contradiction) | decide
              all_goals first
               | omega
               | (rw [if_pos (by omega)] at hz
                  refine dA0 ⟨(k + 1, dx + y.2.2.1), by dsimp only; omega, by dsimp only; omega, by dsimp only; omega, hz⟩ ?_ (by dsimp only; omega); simp only [go_sem]
                  try rfl
                  done)
               | (rw [if_neg (by omega)] at hz
                  refine dA0 ⟨(k + 1, b), by dsimp only; omega, hb1, hb2, hz⟩ ?_ (by dsimp only; omega); simp only [go_sem]
                  try rfl
                  done)
        · have : k = y.2.2.2.2.length := by omega
          subst this; rw [List.drop_length] at hz; have hz : b = dstV ns br tg n := hz; subst hz; simp only [hset]
          (repeat' with_reducible first | refine And.intro ?_ ?_ | intro _) <;> try first | with_reducible (first | assumption | omega | contradiction) | decide
          all_goals first
           | omega
           | (refine dA0 ⟨n, by omega⟩ ?_ (by dsimp only; omega)
              simp only [go_sem]
              try first | rfl | (and_intros <;> first | trivial | rfl | omega)
              done)
    · have : i = 0 := by omega
      subst this; rfl)
def askV (ns : List Nd) (fr tg : Int) : Bool := (decide (0 ≤ fr) && decide (fr < ns.length)) && ((decide (0 ≤ tg) && decide (tg < ns.length)) && !strN (ns.getD tg.toNat nd0).2.1)
def con109 : Con := { ps := [.d true yLY, .d false yI, .d false yI], rs := [.d false .bool], pre := fun (x : Ly × Int × Int × Unit) => GoodL x.1, out := fun (x : Ly × Int × Int × Unit) => (askV x.1.1 x.2.1 x.2.2.1, ()), nw := id }
theorem c109 : CtrOk Tryz.prog 109 con109.ctr :=
 aA0 eA0 (eC c23 has23 (eC c51 has51 eN)) rfl Tryz.func109 rfl con109 207 (by kernel_rfl) (by decide) (by decide) rfl (by decide) rfl (by
  rintro ⟨⟨(ns : List Nd), (ds : List Dv)⟩, (fr : Int), (tg : Int), _⟩ hpre hwf X hT hG hk hK; have hg : GoodL (ns, ds) := hpre
  (simp -implicitDefEqProofs (maxSteps := 4000000) only [go_sem, bP, con109, con23, con51, hT, hG, hk, hK, Tryz.results109] at hwf ⊢)
  clear hwf; unfold askV; by_cases ht : 0 ≤ tg ∧ tg < ns.length
  · have ek : ∀ z, ns.getD tg.toNat z = ns.getD tg.toNat nd0 := fun z => by simp [show tg.toNat < ns.length by omega]
    simp only [ek]
    (repeat' with_reducible first | refine And.intro ?_ ?_ | intro _) <;> try first | with_reducible (first | assumption | omega | contradiction) | decide
    all_goals first
     | omega
     | exact hg
     | (simp only [ge_iff_le, Bool.and_assoc, decide_true, Bool.and_true]; done)
  · (repeat' with_reducible first | refine And.intro ?_ ?_ | intro _) <;> try first | with_reducible (first | assumption | omega | contradiction) | decide
    all_goals first
     | omega
     | exact hg
     | (by_cases q : 0 ≤ tg
        · have q2 : ¬ tg < ns.length := fun h => ht ⟨q, h⟩; simp [q2]
        · simp [q]))
def con85 : Con := { ps := [.d true yLY, .d false (.sl .bool), .d false yI, .d false yI], rs := [.d false yI], pre := fun (x : Ly × List Bool × Int × Int × Unit) => GoodL x.1, out := fun (x : Ly × List Bool × Int × Int × Unit) => (if askV x.1.1 x.2.2.1 x.2.2.2.1 = true then dstV x.1.1 x.2.1 x.2.2.2.1 x.2.2.1 else -1, ()), nw := id }
theorem c85 : CtrOk Tryz.prog 85 con85.ctr :=
 aA0 eA0 (eC c109 has109 (eC c86 has86 eN)) rfl Tryz.func85 rfl con85 8479 (by kernel_rfl) (by decide) (by decide) rfl (by decide) rfl (by
  rintro ⟨⟨(ns : List Nd), (ds : List Dv)⟩, (br : List Bool), (fr : Int), (tg : Int), _⟩ hpre hwf X hT hG hk hK; have hg : GoodL (ns, ds) := hpre
  (simp -implicitDefEqProofs (maxSteps := 4000000) only [go_sem, bP, con85, con109, con86, hT, hG, hk, hK, Tryz.results85] at hwf ⊢)
  clear hwf; have hdl := tB1 ns br tg 0; have hask : askV ns fr tg = true → 0 ≤ fr ∧ fr < ns.length := fun h => by
   unfold askV at h; simp only [Bool.and_eq_true, decide_eq_true_eq] at h; exact h.1
  have hgd : ∀ z, askV ns fr tg = true → (dstL ns br tg 0).getD fr.toNat z = dstV ns br tg fr := fun z h => by
   have := hask h; rw [mB0 (by omega) (by omega), show ((fr.toNat : Nat) : Int) = fr by omega]
  cases ha : askV ns fr tg with
  | true =>
    have h1 := hask ha; have h2 := fun z => hgd z ha; simp only [h2, hdl]
    (repeat' with_reducible first | refine And.intro ?_ ?_ | intro _) <;> try first | with_reducible (first | assumption | omega | contradiction) | decide
    all_goals first
     | omega
     | exact hg
     | contradiction
     | rfl
  | false =>
    (repeat' with_reducible first | refine And.intro ?_ ?_ | intro _) <;> try first | with_reducible (first | assumption | omega | contradiction) | decide
    all_goals first
     | omega
     | exact hg
     | contradiction
     | rfl)
def exX (ns : List Nd) (br : List Bool) (fr tg x : Int) : Bool :=
 (decide (x ≠ fr) && decide (dstV ns br tg x = dstV ns br tg fr - (ns.getD fr.toNat nd0).2.2.1)) && (decide (x = tg) || strN (ns.getD x.toNat nd0).2.1)
def extV (ns : List Nd) (br : List Bool) (fr tg : Int) : Int :=
 if askV ns fr tg = true ∧ 0 ≤ dstV ns br tg fr ∧ fr ≠ tg then idxV (exX ns br fr tg) (ns.getD fr.toNat nd0).2.2.2.2 else -1
def con48 : Con := { ps := [.d true yLY, .d false (.sl .bool), .d false yI, .d false yI], rs := [.d false yI], pre := fun (x : Ly × List Bool × Int × Int × Unit) => GoodL x.1, out := fun (x : Ly × List Bool × Int × Int × Unit) => (extV x.1.1 x.2.1 x.2.2.1 x.2.2.2.1, ()), nw := id }
theorem c48 : CtrOk Tryz.prog 48 con48.ctr :=
 aA0 eA0 (eC c23 has23 (eC c85 has85 (eC c86 has86 eN))) rfl Tryz.func48 rfl con48 1208925819614766630444831 (by kernel_rfl) (by decide) (by decide) rfl (by decide) rfl (by
  rintro ⟨⟨(ns : List Nd), (ds : List Dv)⟩, (br : List Bool), (fr : Int), (tg : Int), _⟩ hpre hwf X hT hG hk hK; have hg : GoodL (ns, ds) := hpre
  (simp -implicitDefEqProofs (maxSteps := 4000000) only [go_sem, bP, con48, con23, con85, con86, hT, hG, hk, hK, Tryz.results48] at hwf ⊢); (try simp (disch := decide +kernel) only [drawn, true_and, and_true])
  clear hwf; have hdl := tB1 ns br tg 0; have hn24 : ns.length ≤ 24 := hg.n24; have hbd := zB1 hg br tg; by_cases hc : askV ns fr tg = true ∧ 0 ≤ dstV ns br tg fr ∧ fr ≠ tg
  · obtain ⟨ha, h0, hne⟩ := hc; have hfr : 0 ≤ fr ∧ fr < ns.length := by
     have h := ha; unfold askV at h; simp only [Bool.and_eq_true, decide_eq_true_eq] at h; exact h.1
    have hev : extV ns br fr tg = idxV (exX ns br fr tg) (ns.getD fr.toNat nd0).2.2.2.2 := by unfold extV; rw [if_pos ⟨ha, h0, hne⟩]
    obtain ⟨n, rfl⟩ : ∃ n : Nat, fr = n := ⟨fr.toNat, by omega⟩; have hn : n < ns.length := by omega
    have enn : (n : Int).toNat = n := Int.toNat_natCast n; rw [enn] at hev; have hbn := hbd n; simp only [ha, if_true]; refine ⟨hg, fun _ => ⟨fun h => ?_, fun h => ⟨hg, fun _ => ?_⟩⟩⟩
    · exfalso; omega
    · obtain ⟨y, ey⟩ : ∃ y, ns.getD n nd0 = y := ⟨_, rfl⟩; have ek : ∀ z, ns.getD n z = y := fun z => by rw [← ey]; simp [hn]
      have hfd : ∀ x ∈ y.2.2.2.2, x ≠ (n : Int) → (n : Int) < x ∧ x < ns.length := fun x hx h => hg.fwd hn (by rw [ey]; exact hx) h; have hl8 := len8 hg n; rw [ey] at hev hl8; refine cA0 ⟨{ k : Nat // k ≤ y.2.2.2.2.length ∧ ∀ j (h : j < y.2.2.2.2.length), j < k → exX ns br n tg y.2.2.2.2[j] = false }, 1000, fun k => [(1, .one (.sl .bool br false)), (2, .one (.int .i64 n)), (3, .one (.int .i64 tg)), (4, .one (.loc 64 0)), (9, .one (.int .i64 (dstV ns br tg n))), (10, .one (.sl yI (dstL ns br tg 0) false)), (11, .one (.int .i64 k.1))], fun k => [(64, .cells 30 [.sl yNO ns false, .sl yPL ds false])], fun k => y.2.2.2.2.length - k.1⟩ ⟨0, Nat.zero_le _, fun j h hj => by omega⟩ ?_ ?_
      · simp only [go_sem]; rfl
      · rintro ⟨k, (hk0 : k ≤ y.2.2.2.2.length), (hz : ∀ j (h : j < y.2.2.2.2.length), j < k → exX ns br n tg y.2.2.2.2[j] = false)⟩
        (simp -implicitDefEqProofs (maxSteps := 4000000) only [go_sem, bP, con48, con23, con85, con86, hT, hG, hk, hK, Tryz.results48]); (try simp (disch := decide +kernel) only [drawn, true_and, and_true])
        simp only [enn, ek, hdl]; have ekk : (k : Int).toNat = k := Int.toNat_natCast k; by_cases hk' : k < y.2.2.2.2.length
        · have e5 : ∀ z, y.2.2.2.2.getD k z = y.2.2.2.2[k] := fun z => by simp [hk']
          have hfx := hfd y.2.2.2.2[k] (List.getElem_mem hk'); have hxr : 0 ≤ y.2.2.2.2[k] ∧ y.2.2.2.2[k] < ns.length := by
           by_cases e : y.2.2.2.2[k] = (n : Int)
           · omega
           · have := hfx e; omega
          have hat := fun h => vA1 (p := exX ns br n tg) hk' h (fun j hj => hz j (by omega) hj); have hnx : exX ns br n tg y.2.2.2.2[k] = false → ∀ j (h : j < y.2.2.2.2.length), j < k + 1 → exX ns br n tg y.2.2.2.2[j] = false := fun h j hj hjk => by
           by_cases e : j = k
           · subst e; exact h
           · exact hz j hj (by omega)
          simp only [ekk, e5]; generalize y.2.2.2.2[k] = x at *; have hdx := hbd x; have egx : ∀ z, (dstL ns br tg 0).getD x.toNat z = dstV ns br tg x := fun z => by
           rw [mB0 (by omega) (by omega), show ((x.toNat : Nat) : Int) = x by omega]
          obtain ⟨w, hw⟩ : ∃ w, ns.getD x.toNat nd0 = w := ⟨_, rfl⟩; have ewk : ∀ z, ns.getD x.toNat z = w := fun z => by rw [← hw]; simp [show x.toNat < ns.length by omega]
          have hex : exX ns br n tg x = ((decide (x ≠ n) && decide (dstV ns br tg x = dstV ns br tg n - y.2.2.1)) && (decide (x = tg) || strN w.2.1)) := by unfold exX; rw [enn, ey, hw]
          simp only [ewk, egx]
          (repeat' with_reducible first | refine And.intro ?_ ?_ | intro _) <;> try first | with_reducible (first | assumption | omega | contradiction) | decide
          all_goals first
           | omega
           | (have h : (¬x = (n : Int) ∧ dstV ns br tg x = dstV ns br tg n - y.2.2.1) ∧ (x = tg ∨ strN w.2.1 = true) := by assumption
              have hX : exX ns br n tg x = true := by
               rw [hex]; simp only [Bool.and_eq_true, Bool.or_eq_true, decide_eq_true_eq]; exact h
              rw [hev, hat hX]
              done)
           | (have h : (x = (n : Int) ∨ ¬dstV ns br tg x = dstV ns br tg n - y.2.2.1) ∨ (¬x = tg ∧ strN w.2.1 = false) := by assumption
              have hX : exX ns br n tg x = false := by
               rw [hex, ← Bool.not_eq_true]; simp only [Bool.and_eq_true, Bool.or_eq_true, decide_eq_true_eq]; rintro ⟨⟨q1, q2⟩, q3⟩
               rcases h with (h | h) | ⟨h, h'⟩
               · exact q1 h
               · exact h q2
               · rcases q3 with q3 | q3
                 · exact h q3
                 · rw [h'] at q3; cases q3
              refine dA0 ⟨k + 1, by omega, hnx hX⟩ ?_ (by dsimp only; omega); simp only [go_sem]
              try rfl
              done)
        · have hX : idxV (exX ns br n tg) y.2.2.2.2 = -1 := mA1 fun j hj => hz j hj (by omega); rw [hX] at hev
          (repeat' with_reducible first | refine And.intro ?_ ?_ | intro _) <;> try first | with_reducible (first | assumption | omega | contradiction) | decide
          all_goals first
           | omega
           | exact hev.symm
  · have hev : extV ns br fr tg = -1 := by unfold extV; rw [if_neg hc]
    cases ha : askV ns fr tg with
    | true =>
      rw [ha] at hc; have hc : dstV ns br tg fr < 0 ∨ fr = tg := by
       by_cases h : fr = tg
       · exact .inr h
       · exact .inl (by apply Classical.byContradiction; intro q; exact hc ⟨rfl, by omega, h⟩)
      simp only [if_true]
      refine ⟨hg, fun _ => ⟨fun h => hev.symm, fun h => by exfalso; omega⟩⟩
    | false =>
      simp only [Bool.false_eq_true, if_false]; refine ⟨hg, fun _ => ⟨fun h => hev.symm, fun h => by exfalso; omega⟩⟩)
def isV (l : List Bool) (b : Int) : Bool := (decide (1 ≤ b) && decide (b ≤ l.length)) && l.getD (b - 1).toNat false
def con18 : Con := { ps := [.d false (.sl .bool), .d false yI], rs := [.d false .bool], pre := fun _ => True, out := fun (x : List Bool × Int × Unit) => (isV x.1 x.2.1, ()), nw := id }
theorem c18 : CtrOk Tryz.prog 18 con18.ctr :=
 aA0 eA0 eN rfl Tryz.func18 rfl con18 19 (by kernel_rfl) (by decide) (by decide) rfl (by decide) rfl (by
  rintro ⟨(l : List Bool), (b : Int), _⟩ hpre hwf X hT hG hk hK
  (simp -implicitDefEqProofs (maxSteps := 4000000) only [go_sem, bP, con18, hT, hG, hk, hK, Tryz.results18] at hwf ⊢)
  (repeat' with_reducible first | refine And.intro ?_ ?_ | intro _) <;> try first | with_reducible (first | assumption | omega | contradiction) | decide
  all_goals first
   | omega
   | rfl)
def con78 : Con := { ps := [.d false (.sl .bool), .d false yI], rs := [.d false .bool], pre := fun _ => True, out := fun (x : List Bool × Int × Unit) => (isV x.1 x.2.1, ()), nw := id }
theorem c78 : CtrOk Tryz.prog 78 con78.ctr :=
 aA0 eA0 eN rfl Tryz.func78 rfl con78 19 (by kernel_rfl) (by decide) (by decide) rfl (by decide) rfl (by
  rintro ⟨(l : List Bool), (b : Int), _⟩ hpre hwf X hT hG hk hK
  (simp -implicitDefEqProofs (maxSteps := 4000000) only [go_sem, bP, con78, hT, hG, hk, hK, Tryz.results78] at hwf ⊢)
  (repeat' with_reducible first | refine And.intro ?_ ?_ | intro _) <;> try first | with_reducible (first | assumption | omega | contradiction) | decide
  all_goals first
   | omega
   | rfl)
def refW (ns : List Nd) (n b : Int) (ts : List Int) (cl br : List Bool) : Int :=
 if (((ns.getD n.toNat nd0).2.1 = 6 ∧ isV cl b = false) ∨ b < 1) ∨ (ts.length : Int) < b then 0
 else if extV ns br n (ts.getD (b - 1).toNat 0) < 0 then 0 else extV ns br n (ts.getD (b - 1).toNat 0)
def con20 : Con := { ps := [.d true yLY, .d false yI, .d false yI, .d false (.sl yI), .d false (.sl .bool), .d false (.sl .bool)], rs := [.d false yI], pre := fun (x : Ly × Int × Int × List Int × List Bool × List Bool × Unit) => GoodL x.1 ∧ (0 ≤ x.2.1 ∧ x.2.1 < x.1.1.length) ∧ x.2.2.2.1.length ≤ 1000000, out := fun (x : Ly × Int × Int × List Int × List Bool × List Bool × Unit) => (refW x.1.1 x.2.1 x.2.2.1 x.2.2.2.1 x.2.2.2.2.1 x.2.2.2.2.2.1, ()), nw := id }
theorem c20 : CtrOk Tryz.prog 20 con20.ctr :=
 aA0 eA0 (eC c18 has18 (eC c48 has48 eN)) rfl Tryz.func20 rfl con20 34359742591 (by kernel_rfl) (by decide) (by decide) rfl (by decide) rfl (by
  rintro ⟨⟨(ns : List Nd), (ds : List Dv)⟩, (n : Int), (b : Int), (ts : List Int), (cl : List Bool), (br : List Bool), _⟩ hpre hwf X hT hG hk hK; obtain ⟨hg, ⟨h1, h2⟩, h3⟩ : GoodL (ns, ds) ∧ (0 ≤ n ∧ n < ns.length) ∧ ts.length ≤ 1000000 := hpre
  (simp -implicitDefEqProofs (maxSteps := 4000000) only [go_sem, bP, con20, con18, con48, hT, hG, hk, hK, Tryz.results20] at hwf ⊢); (try simp (disch := decide +kernel) only [drawn, true_and, and_true])
  clear hwf; have ek : ∀ z, ns.getD n.toNat z = ns.getD n.toNat nd0 := fun z => by simp [show n.toNat < ns.length by omega]
  have hw : refW ns n b ts cl br = if (((ns.getD n.toNat nd0).2.1 = 6 ∧ isV cl b = false) ∨ b < 1) ∨ (ts.length : Int) < b then 0
   else if extV ns br n (ts.getD (b - 1).toNat 0) < 0 then 0 else extV ns br n (ts.getD (b - 1).toNat 0) := rfl
  simp only [ek]; generalize ns.getD n.toNat nd0 = y at *; generalize extV ns br n (ts.getD (b - 1).toNat 0) = e at *
  cases hs : isV cl b with
  | true =>
    simp only [hs, reduceCtorEq, and_false, or_false, false_or] at hw ⊢
    (repeat' with_reducible first | refine And.intro ?_ ?_ | intro _) <;> try first | with_reducible (first | assumption | omega | contradiction) | decide
    all_goals first
     | omega
     | exact hg
     | (simp only [reduceCtorEq] at *; omega)
     | (rw [hw]; repeat' (first | omega | split))
  | false =>
    simp only [hs, reduceCtorEq, and_true, or_false] at hw ⊢
    (repeat' with_reducible first | refine And.intro ?_ ?_ | intro _) <;> try first | with_reducible (first | assumption | omega | contradiction) | decide
    all_goals first
     | omega
     | exact hg
     | (simp only [reduceCtorEq] at *; omega)
     | (rw [hw]; repeat' (first | omega | split)))
def binV (ns : List Nd) (i : Int) : Bool := (decide (0 ≤ i) && decide (i < ns.length)) && !strN (ns.getD i.toNat nd0).2.1
def con149 : Con := { ps := [.d true yLY, .d false yI], rs := [.d false .bool], pre := fun _ => True, out := fun (x : Ly × Int × Unit) => (binV x.1.1 x.2.1, ()), nw := id }
theorem c149 : CtrOk Tryz.prog 149 con149.ctr :=
 aA0 eA0 (eC c123 has123 eN) rfl Tryz.func149 rfl con149 23 (by kernel_rfl) (by decide) (by decide) rfl (by decide) rfl (by
  rintro ⟨⟨(ns : List Nd), (ds : List Dv)⟩, (i : Int), _⟩ hpre hwf X hT hG hk hK
  (simp -implicitDefEqProofs (maxSteps := 4000000) only [go_sem, bP, con149, con123, hT, hG, hk, hK, Tryz.results149] at hwf ⊢)
  clear hwf; have e0 : binV ns i = ((decide (0 ≤ i) && decide (i < ns.length)) && !strN (ns.getD i.toNat nd0).2.1) := rfl; rw [e0]; by_cases h : 0 ≤ i ∧ i < ns.length
  · have ek : ∀ z, ns.getD i.toNat z = ns.getD i.toNat nd0 := fun z => by simp [show i.toNat < ns.length by omega]
    simp only [ek]
    (repeat' with_reducible first | refine And.intro ?_ ?_ | intro _) <;> try first | with_reducible (first | assumption | omega | contradiction) | decide
    all_goals first
     | omega
     | rfl
  · (repeat' with_reducible first | refine And.intro ?_ ?_ | intro _) <;> try first | with_reducible (first | assumption | omega | contradiction) | decide
    all_goals first
     | omega
     | rfl)
def con132 : Con := { ps := [.d true yLY, .d false yI, .d false yI, .d false yI], rs := [.d false .bool], pre := fun (x : Ly × Int × Int × Int × Unit) => 0 ≤ x.2.2.1 ∧ x.2.2.1 < x.1.1.length, out := fun (x : Ly × Int × Int × Int × Unit) => (goX x.1.1 x.2.2.2.1 x.2.1 x.2.2.1, ()), nw := id }
theorem c132 : CtrOk Tryz.prog 132 con132.ctr :=
 aA0 eA0 (eC c123 has123 eN) rfl Tryz.func132 rfl con132 287 (by kernel_rfl) (by decide) (by decide) rfl (by decide) rfl (by
  rintro ⟨⟨(ns : List Nd), (ds : List Dv)⟩, (n : Int), (x : Int), (tg : Int), _⟩ hpre hwf X hT hG hk hK; obtain ⟨h1, h2⟩ : 0 ≤ x ∧ x < ns.length := hpre
  (simp -implicitDefEqProofs (maxSteps := 4000000) only [go_sem, bP, con132, con123, hT, hG, hk, hK, Tryz.results132] at hwf ⊢)
  clear hwf; have ek : ∀ z, ns.getD x.toNat z = ns.getD x.toNat nd0 := fun z => by simp [show x.toNat < ns.length by omega]
  have e0 : goX ns tg n x = (decide (x ≠ n) && (decide (x = tg) || strN (ns.getD x.toNat nd0).2.1)) := rfl; rw [e0]; simp only [ek]
  (repeat' with_reducible first | refine And.intro ?_ ?_ | intro _) <;> try first | with_reducible (first | assumption | omega | contradiction) | decide
  all_goals first
   | omega
   | rfl)
def con130 : Con := { ps := [.d true yLY, .d false yI, .d false yI], rs := [.d false .bool], pre := fun (x : Ly × Int × Int × Unit) => GoodL x.1, out := fun (x : Ly × Int × Int × Unit) => (askV x.1.1 x.2.1 x.2.2.1, ()), nw := id }
theorem c130 : CtrOk Tryz.prog 130 con130.ctr :=
 aA0 eA0 (eC c149 has149 (eC c39 has39 eN)) rfl Tryz.func130 rfl con130 79 (by kernel_rfl) (by decide) (by decide) rfl (by decide) rfl (by
  rintro ⟨⟨(ns : List Nd), (ds : List Dv)⟩, (n : Int), (tg : Int), _⟩ hpre hwf X hT hG hk hK; have hg : GoodL (ns, ds) := hpre
  (simp -implicitDefEqProofs (maxSteps := 4000000) only [go_sem, bP, con130, con149, con39, hT, hG, hk, hK, Tryz.results130] at hwf ⊢)
  clear hwf; intro _; unfold askV binV; simp only [ge_iff_le]; refine ⟨fun _ => hg, ?_⟩
  (repeat' with_reducible first | refine And.intro ?_ ?_ | intro _) <;> try first | with_reducible (first | assumption | omega | contradiction) | decide)
attribute [local go_sem] List.set_cons_succ List.set_cons_zero List.getD_cons_succ List.getD_cons_zero List.set_nil
structure MmOk (ns : List Nd) (br : List Bool) (tg : Int) (M : List (List Int)) : Prop where
 a : M.length = ns.length
 b : ∀ i, i < ns.length → (M.getD i []).length = ns.length
 c : ∀ i, i < ns.length → (M.getD i []).getD tg.toNat 0 = -2 ∨ (M.getD i []).getD tg.toNat 0 = dstV ns br tg i
def mmE (f : Nat → List (List Int) → List (List Int)) (ns : List Nd) (tg n : Int) : List Int → List (List Int) → List (List Int)
 | [], M => M
 | x :: xs, M => mmE f ns tg n xs (if goX ns tg n x = true then f x.toNat M else M)
def mmSet (ns : List Nd) (br : List Bool) (tg : Int) (n : Nat) (M : List (List Int)) : List (List Int) := M.set n ((M.getD n []).set tg.toNat (dstV ns br tg n))
def mmF (ns : List Nd) (br : List Bool) (tg : Int) : Nat → Nat → List (List Int) → List (List Int)
 | 0, _, M => M
 | k + 1, n, M => if (M.getD n []).getD tg.toNat 0 ≠ -2 then M
   else mmSet ns br tg n (if brkV br n = true ∨ (n : Int) = tg then M else mmE (mmF ns br tg k) ns tg n (ns.getD n nd0).2.2.2.2 M)
theorem uC6 {ns : List Nd} {br : List Bool} {tg : Int} {n : Nat} {M : List (List Int)} (h : MmOk ns br tg M) (hn : n < ns.length) (ht : tg.toNat < ns.length) : MmOk ns br tg (mmSet ns br tg n M) := by
 have ha := h.a; have hbn := h.b n hn; have e : ∀ i, (mmSet ns br tg n M).getD i [] = if i = n then (M.getD n []).set tg.toNat (dstV ns br tg n) else M.getD i [] := fun i => by
  unfold mmSet; by_cases hi : i = n
  · subst hi; rw [if_pos rfl]; simp [show i < M.length by omega]
  · rw [if_neg hi]; exact getD_set_ne hi
 refine ⟨by unfold mmSet; rw [List.length_set]; exact ha, fun i hi => ?_, fun i hi => ?_⟩
 · rw [e]; split
   · rw [List.length_set]; exact hbn
   · exact h.b i hi
 · rw [e]; split
   · rename_i hi; subst hi; right; rw [gdE, List.getElem?_set_self (by omega)]; rfl
   · exact h.c i hi
theorem nC8 {ns : List Nd} {br : List Bool} {tg n : Int} {f : Nat → List (List Int) → List (List Int)} : ∀ (l : List Int) (M : List (List Int)), (∀ x ∈ l, goX ns tg n x = true → ∀ M, MmOk ns br tg M → MmOk ns br tg (f x.toNat M)) → MmOk ns br tg M → MmOk ns br tg (mmE f ns tg n l M)
 | [], M, _, h => h
 | x :: l, M, hf, h => by
   unfold mmE; refine nC8 l _ (fun y hy => hf y (List.mem_cons_of_mem _ hy)) ?_; split
   · rename_i hg; exact hf x List.mem_cons_self hg M h
   · exact h
theorem qC3 {ds : List Dv} {ns : List Nd} (hg : GoodL (ns, ds)) {n : Nat} (hn : n < ns.length) {tg x : Int} (hx : x ∈ (ns.getD n nd0).2.2.2.2) (h : goX ns tg n x = true) : (n : Int) < x ∧ x < ns.length := by
 refine hg.fwd hn hx fun e => ?_; unfold goX at h; simp [e] at h
theorem pB7 {ds : List Dv} {ns : List Nd} (hg : GoodL (ns, ds)) {br : List Bool} {tg : Int} (ht : tg.toNat < ns.length) : ∀ (k n : Nat) (M : List (List Int)), n < ns.length → MmOk ns br tg M → MmOk ns br tg (mmF ns br tg k n M)
 | 0, _, M, _, h => h
 | k + 1, n, M, hn, h => by
   unfold mmF; split
   · exact h
   · refine uC6 ?_ hn ht; split
     · exact h
     · refine nC8 _ _ (fun x hx hgo M hM => ?_) h; have := qC3 hg hn hx hgo; exact pB7 hg ht k _ M (by omega) hM
def wayP (k : Nat) (ns : List Nd) (ds : List Dv) (br : List Bool) (n tg : Int) (l : Nat) (M : List (List Int)) : Prop :=
 GoodL (ns, ds) ∧ MmOk ns br tg M ∧ (0 ≤ n ∧ n < ns.length) ∧ (0 ≤ tg ∧ tg < ns.length) ∧ strN (ns.getD tg.toNat nd0).2.1 = false ∧ l = ns.length ∧ (ns.length : Int) - n ≤ k
def wayE (k : Nat) (q : Prop) (n tg : Int) (l f : Nat) : Option (List (List Int)) → Option (List Bool) → Option (List Nd) → Option (List Dv) → Eff
 | some M, some br, some ns, some ds => ⟨q ∧ wayP k ns ds br n tg l M, .one (.int .i64 (dstV ns br tg n)), [(f, .fam 3 yI (mmF ns br tg k n.toNat M))], True⟩
 | _, _, _, _ => bad
def wayF (k : Nat) (n tg : Int) (a b c d : Nat) (q : Prop) (l f : Nat) : Blk → Blk → Blk → Blk → Eff
 | .fam e1 u M, .cells e2 [.sl t br false], .cells e3 [.sl t1 ns false, .sl t2 ds false], .cells e4 [.fn g [.loc a' 0, .loc b' 0, .loc c' 0, .loc d' 0]] =>
   wayE k ((q ∧ e1 = 3 ∧ e2 = 23 ∧ e3 = 30 ∧ e4 = 76) ∧ g = 150 ∧ a' = a ∧ b' = b ∧ c' = c ∧ d' = d) n tg l f (castTy (.sl u) (.sl yI) M) (castTy t .bool br) (castTy t1 yNO ns) (castTy t2 yPL ds)
 | _, _, _, _ => bad
def wayG (k : Nat) (n tg : Int) (a b c d : Nat) (q : Prop) (m : Mem) : Blk → Eff
 | .rowg e t p f xs none => wayF k n tg a b c d (q ∧ e = 22 ∧ t = .sl yI ∧ p = 0) xs.length f (m f) (m b) (m c) (m d)
 | _ => bad
def wayH (k : Nat) (n tg : Int) (a b c d : Nat) (m : Mem) : Blk → Eff
 | .cells e [.row r] => wayG k n tg a b c d (e = 35) m (m r)
 | _ => bad
def wayC (k : Nat) : Ctr := fun avs m _ => match avs with
 | [.one (.int .i64 n), .one (.int .i64 tg), .one (.loc a 0), .one (.loc b 0), .one (.loc c 0), .one (.loc d 0)] => wayH k n tg a b c d m (m a)
 | _ => bad
def conWay (k : Nat) : RawT := ⟨wayC k⟩
theorem aC2 {k : Nat} {avs : List AV} {m : Mem} {fr : Nat} (hp : (wayC k avs m fr).pre) : ∃ (n tg : Int) (a b c d r f : Nat) (xs : List (List Int)) (M : List (List Int)) (br : List Bool) (ns : List Nd) (ds : List Dv) (P : Prop),
 avs = [.one (.int .i64 n), .one (.int .i64 tg), .one (.loc a 0), .one (.loc b 0), .one (.loc c 0), .one (.loc d 0)] ∧ m a = .cells 35 [.row r] ∧ m r = .rowg 22 (.sl yI) 0 f xs none ∧ m f = .fam 3 yI M ∧
 m b = .cells 23 [.sl .bool br false] ∧ m c = .cells 30 [.sl yNO ns false, .sl yPL ds false] ∧ m d = .cells 76 [.fn 150 [.loc a 0, .loc b 0, .loc c 0, .loc d 0]] ∧ wayP k ns ds br n tg xs.length M ∧
 wayC k avs m fr = ⟨P, .one (.int .i64 (dstV ns br tg n)), [(f, .fam 3 yI (mmF ns br tg k n.toNat M))], True⟩ := by
 unfold wayC at hp ⊢; split at hp
 · rename_i n tg a b c d; unfold wayH at hp; split at hp
   · rename_i e r ha; unfold wayG at hp; split at hp
     · rename_i e2 t p f xs hr; unfold wayF at hp; split at hp
       · rename_i e1 u M e3 t1 br e4 t2 ns t3 ds e5 g a' b' c' d' hf hb hc hd; unfold castTy at hp; by_cases h1 : Ty.sl u = .sl yI
         · by_cases h2 : t1 = .bool
           · by_cases h3 : t2 = yNO
             · by_cases h4 : t3 = yPL
               · cases h1; subst h2; subst h3; subst h4; simp only [dif_pos] at hp; obtain ⟨⟨⟨⟨rfl, rfl, rfl, rfl⟩, rfl, rfl, rfl, rfl⟩, rfl, rfl, rfl, rfl, rfl⟩, hP⟩ := hp; refine ⟨n, tg, a', b', c', d', r, f, xs, M, br, ns, ds, (wayH k n tg a' b' c' d' m (m a')).pre, rfl, ha, hr, hf, hb, hc, hd, hP, ?_⟩; simp only [wayH, ha, wayG, hr, wayF, hf, hb, hc, hd, castTy, dif_pos, wayE]
               · simp only [dif_pos h1, dif_pos h2, dif_pos h3, dif_neg h4] at hp; exact hp.elim
             · simp only [dif_pos h1, dif_pos h2, dif_neg h3] at hp; exact hp.elim
           · simp only [dif_pos h1, dif_neg h2] at hp; exact hp.elim
         · simp only [dif_neg h1] at hp; exact hp.elim
       · exact hp.elim
     · exact hp.elim
   · exact hp.elim
 · exact hp.elim
theorem zWay : CtrOk Tryz.prog 150 (conWay 0).ctr := by
 intro D gv hDS cx hcd σ N m w fr avs vs hM hfr hreps hp; obtain ⟨n, tg, a, b, c, d, r, f, xs, M, br, ns, ds, P, _, _, _, _, _, _, _, hP, _⟩ := aC2 (k := 0) (fr := fr) hp; obtain ⟨_, _, h1, _, _, _, h2⟩ := hP; omega
def wayL (a b c d r f : Nat) : List (Nat × Nat) := [(2, a), (3, b), (4, c), (5, d), (6, r), (7, f)]
def wayO (ns : List Nd) (ds : List Dv) (br : List Bool) (xs M : List (List Int)) : List Blk := [.cells 35 [.row 6], .cells 23 [.sl .bool br false], .cells 30 [.sl yNO ns false, .sl yPL ds false], .cells 76 [.fn 150 [.loc 2 0, .loc 3 0, .loc 4 0, .loc 5 0]], .rowg 22 (.sl yI) 0 7 xs none, .fam 3 yI M]
def way0 (ns : List Nd) (ds : List Dv) (br : List Bool) (xs M : List (List Int)) : Heap := [(2, .cells 35 [.row 6]), (3, .cells 23 [.sl .bool br false]), (4, .cells 30 [.sl yNO ns false, .sl yPL ds false]), (5, .cells 76 [.fn 150 [.loc 2 0, .loc 3 0, .loc 4 0, .loc 5 0]]), (6, .rowg 22 (.sl yI) 0 7 xs none), (7, .fam 3 yI M)]
theorem upd_same {m : Mem} : ∀ {H : Heap}, (∀ p ∈ H, m p.1 = p.2) → updM m H = m
 | [], _ => rfl
 | (k, b) :: r, h => by
   have e : (fun i => if k = i then b else m i) = m := by
    funext i; by_cases q : k = i
    · subst q; rw [if_pos rfl]; exact (h _ List.mem_cons_self).symm
    · rw [if_neg q]
   rw [updM, e]; exact upd_same fun p hp => h p (List.mem_cons_of_mem _ hp)
theorem xD2 {m : Mem} {a b c d r f fr : Nat} {ns : List Nd} {ds : List Dv} {br : List Bool} {xs M M' : List (List Int)} (ha : m a = .cells 35 [.row r]) (hr : m r = .rowg 22 (.sl yI) 0 f xs none) (hf : m f = .fam 3 yI M)
 (hb : m b = .cells 23 [.sl .bool br false]) (hc : m c = .cells 30 [.sl yNO ns false, .sl yPL ds false]) (hd : m d = .cells 76 [.fn 150 [.loc a 0, .loc b 0, .loc c 0, .loc d 0]]) :
 updM m ([] ++ (oldU (rnL (wayL a b c d r f) fr) (wayL a b c d r f) (wayO ns ds br xs M') ++ newU (rnL (wayL a b c d r f) fr) fr [])) = updM m [(f, .fam 3 yI M')] := by
 funext i; have e : oldU (rnL (wayL a b c d r f) fr) (wayL a b c d r f) (wayO ns ds br xs M') = [(a, .cells 35 [.row r]), (b, .cells 23 [.sl .bool br false]), (c, .cells 30 [.sl yNO ns false, .sl yPL ds false]), (d, .cells 76 [.fn 150 [.loc a 0, .loc b 0, .loc c 0, .loc d 0]]), (r, .rowg 22 (.sl yI) 0 f xs none), (f, .fam 3 yI M')] := rfl; have h1 : updM m [(a, .cells 35 [.row r]), (b, .cells 23 [.sl .bool br false]), (c, .cells 30 [.sl yNO ns false, .sl yPL ds false]), (d, .cells 76 [.fn 150 [.loc a 0, .loc b 0, .loc c 0, .loc d 0]]), (r, .rowg 22 (.sl yI) 0 f xs none)] = m := upd_same fun p hp => by
  simp only [List.mem_cons, List.not_mem_nil, or_false] at hp
  rcases hp with rfl | rfl | rfl | rfl | rfl
  · exact ha
  · exact hb
  · exact hc
  · exact hd
  · exact hr
 have h2 := yA0 (m := m) [(a, .cells 35 [.row r]), (b, .cells 23 [.sl .bool br false]), (c, .cells 30 [.sl yNO ns false, .sl yPL ds false]), (d, .cells 76 [.fn 150 [.loc a 0, .loc b 0, .loc c 0, .loc d 0]]), (r, .rowg 22 (.sl yI) 0 f xs none)] [(f, .fam 3 yI M')]; rw [h1] at h2; rw [e]; exact congrFun h2 i
attribute [local go_sem] rawPost resS oldH newH wayO way0 wayC wayH wayG wayF wayE conWay
theorem aC5 (k : Nat) (ns : List Nd) (ds : List Dv) (br : List Bool) (n tg : Int) (xs M : List (List Int)) (a b c' d r f : Nat) (hp : wayP (k + 1) ns ds br n tg xs.length M) {c : Code} (hc : Tryz.f150.body = some c) (X : Wk) (hT : X.T = tab) (hG : X.G = ⟨[(132, con132.ctr), (150, (conWay k).ctr)], [], [(16, 10), (24, 10), (100, 10)], [], []⟩) (hk : X.ks = 154818136561392464560134975)
 (hK : X.K = rawPost tab Tryz.f150.results.toList (wayL a b c' d r f) (fun _ : Unit => True) (fun _ => [.one (.int .i64 (dstV ns br tg n))]) (fun _ => wayO ns ds br xs (mmF ns br tg (k + 1) n.toNat M)) (fun _ => [])) :
 evk X c [(0, .one (.int .i64 n)), (1, .one (.int .i64 tg)), (2, .one (.loc 2 0)), (3, .one (.loc 3 0)), (4, .one (.loc 4 0)), (5, .one (.loc 5 0))] (way0 ns ds br xs M) 32 [] := by
 cases hc; unfold wayL at hK; obtain ⟨hg, hm, ⟨hn0, hn1⟩, ⟨ht0, ht1⟩, hst, hxl, hkk⟩ := hp; obtain ⟨n, rfl⟩ : ∃ q : Nat, n = q := ⟨n.toNat, by omega⟩; have enn : (n : Int).toNat = n := Int.toNat_natCast n; have hn : n < ns.length := by omega
 simp only [enn] at hK
 (simp -implicitDefEqProofs (maxSteps := 4000000) only [go_sem, bP, conWay, con132, hT, hG, hk, hK, Tryz.results150])
 obtain ⟨y, ey⟩ : ∃ y, ns.getD n nd0 = y := ⟨_, rfl⟩; have ek : ∀ z, ns.getD n z = y := fun z => by rw [← ey]; simp [hn]
 obtain ⟨R, eR⟩ : ∃ R, M.getD n [] = R := ⟨_, rfl⟩; have hRl : R.length = ns.length := by rw [← eR]; exact hm.b n hn
 obtain ⟨v, ev⟩ : ∃ v, R.getD tg.toNat 0 = v := ⟨_, rfl⟩; have hv : v = -2 ∨ v = dstV ns br tg n := by
  have := hm.c n hn; rw [eR, ev] at this; exact this
 have hbd := zB1 hg br tg; have hdn := jC0 hg (br := br) (tg := tg) hn; have hl8 := len8 hg n; rw [ey] at hdn hl8; have hF : mmF ns br tg (k + 1) n M = if v ≠ -2 then M else mmSet ns br tg n (if brkV br n = true ∨ (n : Int) = tg then M else mmE (mmF ns br tg k) ns tg n y.2.2.2.2 M) := by
  rw [mmF, eR, ev, ey]
 have hF1 : ¬ v = -2 → mmF ns br tg (k + 1) n M = M := fun h => by rw [hF, if_pos h]
 have hV1 : ¬ v = -2 → v = dstV ns br tg n := fun h => hv.resolve_left h; have hbr : brkV br n = true ↔ (n : Int) < br.length ∧ br.getD n false = true := by
  unfold brkV; rw [enn, Bool.and_eq_true, decide_eq_true_eq]
 have hS : ∀ M' : List (List Int), mmSet ns br tg n M' = M'.set n ((M'.getD n []).set tg.toNat (dstV ns br tg n)) := fun _ => rfl; have hF2 : v = -2 → ((n : Int) < br.length ∧ br.getD n false = true) → mmF ns br tg (k + 1) n M = M.set n (R.set tg.toNat (-1)) ∧ dstV ns br tg n = -1 := fun h h2 => by
  have h3 := hbr.2 h2; have h4 : dstV ns br tg n = -1 := by rw [hdn, if_pos h3]
  rw [hF, if_neg (fun q => q h), if_pos (.inl h3), hS, eR, h4]; exact ⟨rfl, rfl⟩
 have hF3 : v = -2 → (¬ (n : Int) < br.length ∨ br.getD n false = false) → (n : Int) = tg → mmF ns br tg (k + 1) n M = M.set n (R.set tg.toNat y.2.2.1) ∧ dstV ns br tg n = y.2.2.1 := fun h h2 h5 => by
  have h3 : ¬ brkV br n = true := fun q => h2.elim (fun e => e (hbr.1 q).1) (fun e => by rw [(hbr.1 q).2] at e; cases e); have h6 : y.2.2.1 = 0 := by
   have := (hg.nd n hn).l0; dsimp only at this; rw [ey] at this; refine this ?_; rw [← h5, enn, ey] at hst; exact hst
  have h4 : dstV ns br tg n = y.2.2.1 := by rw [hdn, if_neg h3, if_pos h5, h6]
  rw [hF, if_neg (fun q => q h), if_pos (.inr h5), hS, eR, h4]; exact ⟨rfl, rfl⟩
 have hkey : v = -2 → (¬ (n : Int) < br.length ∨ br.getD n false = false) → ¬ (n : Int) = tg → ∃ D Mf, dstV ns br tg n = D ∧ D = bestE y.2.2.1 (fun x => goX ns tg n x && decide (0 ≤ dstV ns br tg x)) (dstV ns br tg) y.2.2.2.2 (-1) ∧ Mf = mmE (mmF ns br tg k) ns tg n y.2.2.2.2 M ∧ mmF ns br tg (k + 1) n M = Mf.set n ((Mf.getD n []).set tg.toNat D) := fun h h2 h5 => by
  have h3 : ¬ brkV br n = true := fun q => h2.elim (fun e => e (hbr.1 q).1) (fun e => by rw [(hbr.1 q).2] at e; cases e); refine ⟨_, _, rfl, by rw [hdn, if_neg h3, if_neg h5], rfl, ?_⟩; rw [hF, if_neg (fun q => q h), if_neg (fun q => q.elim h3 h5), hS]
 have hfd : ∀ x ∈ y.2.2.2.2, 0 ≤ x ∧ x < ns.length ∧ (goX ns tg n x = true → (n : Int) < x) := fun x hx => by
  by_cases e : x = (n : Int)
  · exact ⟨by omega, by omega, fun q => (qC3 hg hn (by rw [ey]; exact hx) q).1⟩
  · have := hg.fwd hn (by rw [ey]; exact hx) e; exact ⟨by omega, by omega, fun _ => this.1⟩
 simp only [enn, ek, eR, ev, hxl, hRl]
 (repeat' with_reducible first | refine And.intro ?_ ?_ | intro _) <;> try first | with_reducible (first | assumption | omega | contradiction) | decide
 all_goals first
  | omega
  | (obtain h := hF1 (by assumption)
     exact ⟨(), h.symm, hV1 (by assumption)⟩)
  | (obtain ⟨q1, q2⟩ := hF2 (by assumption) (by assumption)
     exact ⟨(), q1.symm, q2.symm⟩)
  | (obtain ⟨q1, q2⟩ := hF3 (by assumption) (by assumption) (by assumption)
     exact ⟨(), q1.symm, q2.symm⟩)
  | skip
 obtain ⟨D, Mf, hD, hDe, hMf, hMM⟩ := hkey (by assumption) (by assumption) (by assumption); rw [hMM, hD] at hK; have hbK := hbd n; rw [hD] at hbK; refine cA0 ⟨{ q : Nat × Int × List (List Int) // q.1 ≤ y.2.2.2.2.length ∧ D = bestE y.2.2.1 (fun x => goX ns tg n x && decide (0 ≤ dstV ns br tg x)) (dstV ns br tg) (y.2.2.2.2.drop q.1) q.2.1 ∧ Mf = mmE (mmF ns br tg k) ns tg n (y.2.2.2.2.drop q.1) q.2.2 ∧ MmOk ns br tg q.2.2 ∧ -1 ≤ q.2.1 ∧ q.2.1 ≤ 400 }, 1000, fun q => [(0, .one (.int .i64 n)), (1, .one (.int .i64 tg)), (2, .one (.loc 2 0)), (3, .one (.loc 3 0)), (4, .one (.loc 4 0)), (5, .one (.loc 5 0)), (9, .one (.int .i64 q.1.2.1)), (33, .one (.sl yI y.2.2.2.2 false)), (34, .one (.int .i64 y.2.2.2.2.length)), (35, .one (.int .i64 (q.1.1 : Int)))], fun q => way0 ns ds br xs q.1.2.2, fun q => y.2.2.2.2.length - q.1.1⟩ ⟨(0, -1, M), Nat.zero_le _, hDe, hMf, hm, Int.le_refl _, (show (-1 : Int) ≤ 400 by decide)⟩ ?_ ?_
 · simp only [go_sem]; rfl
 · rintro ⟨⟨j, b, N⟩, (hj : j ≤ y.2.2.2.2.length), (hb1 : D = bestE y.2.2.1 (fun x => goX ns tg n x && decide (0 ≤ dstV ns br tg x)) (dstV ns br tg) (y.2.2.2.2.drop j) b), (hb2 : Mf = mmE (mmF ns br tg k) ns tg n (y.2.2.2.2.drop j) N), (hN : MmOk ns br tg N), (hb3 : -1 ≤ b), (hb4 : b ≤ 400)⟩
   (simp -implicitDefEqProofs (maxSteps := 4000000) only [go_sem, bP, conWay, con132, hT, hG, hk, hK, Tryz.results150])
   have ejj : (j : Int).toNat = j := Int.toNat_natCast j; refine ⟨fun hlt => ?_, fun hge => ?_⟩
   · have hj' : j < y.2.2.2.2.length := by omega
     have ejk : ∀ z, y.2.2.2.2.getD j z = y.2.2.2.2[j] := fun z => by simp [hj']
     have hfx := hfd y.2.2.2.2[j] (List.getElem_mem hj'); rw [List.drop_eq_getElem_cons hj'] at hb1 hb2; rw [bestE] at hb1; rw [mmE] at hb2; simp only [ejj, ejk, enn, ek]; generalize y.2.2.2.2[j] = x at *; have hbx := hbd x; have hNx : goX ns tg n x = true → MmOk ns br tg (mmF ns br tg k x.toNat N) := fun q => pB7 hg (by omega) k x.toNat N (by omega) hN; have hP : goX ns tg n x = true → wayP k ns ds br x tg xs.length N := fun q => ⟨hg, hN, ⟨by omega, by omega⟩, ⟨ht0, ht1⟩, hst, hxl, by have := hfx.2.2 q; omega⟩; have b1 : goX ns tg n x = true → 0 ≤ dstV ns br tg x → (b < 0 ∨ dstV ns br tg x + y.2.2.1 < b) → _ := fun q1 q2 q3 => hb1.trans (by rw [if_pos ⟨by rw [q1, decide_eq_true q2]; rfl, q3⟩]); have b2 : ¬ (goX ns tg n x = true ∧ 0 ≤ dstV ns br tg x ∧ (b < 0 ∨ dstV ns br tg x + y.2.2.1 < b)) → _ := fun q => hb1.trans (by rw [if_neg (fun w => by
      rw [Bool.and_eq_true, decide_eq_true_eq] at w; exact q ⟨w.1.1, w.1.2, w.2⟩)])
     have m1 : goX ns tg n x = true → _ := fun q => hb2.trans (by rw [if_pos q]); have m2 : goX ns tg n x = false → _ := fun q => hb2.trans (by rw [if_neg (by rw [q]; decide)])
     (repeat' with_reducible first | refine And.intro ?_ ?_ | intro _) <;> try first | with_reducible (first | assumption | omega | contradiction) | decide
     all_goals first
      | omega
      | exact hP (by assumption)
      | (have q : goX ns tg n x = false := by assumption
         refine dA0 ⟨(j + 1, b, N), by dsimp only; omega, b2 (fun w => by rw [q] at w; cases w.1), m2 q, hN, hb3, hb4⟩ ?_ (by dsimp only; omega); simp only [go_sem]; rfl
         done)
      | (have q : goX ns tg n x = true := by assumption
         refine dA0 ⟨(j + 1, dstV ns br tg x + y.2.2.1, mmF ns br tg k x.toNat N), by dsimp only; omega, b1 q (by omega) (by omega), m1 q, hNx q, by dsimp only; omega, by dsimp only; omega⟩ ?_ (by dsimp only; omega); simp only [go_sem]; rfl
         done)
      | (have q : goX ns tg n x = true := by assumption
         refine dA0 ⟨(j + 1, b, mmF ns br tg k x.toNat N), by dsimp only; omega, b2 (by omega), m1 q, hNx q, hb3, hb4⟩ ?_ (by dsimp only; omega); simp only [go_sem]; rfl
         done)
   · have hjl : j = y.2.2.2.2.length := by omega
     rw [hjl, List.drop_length] at hb1 hb2; have hb1 : D = b := hb1; have hb2 : Mf = N := hb2; have hNl := hN.b n hn; simp only [enn, hxl, hNl]; exact ⟨⟨by omega, by omega⟩, fun _ => ⟨⟨by omega, by omega⟩, ⟨by omega, by omega⟩, fun _ => ⟨⟨by omega, by omega⟩, (), by rw [hb1, hb2], hb1.symm⟩⟩⟩
theorem sWay (k : Nat) (ih : CtrOk Tryz.prog 150 (conWay k).ctr) : CtrOk Tryz.prog 150 (conWay (k + 1)).ctr := by
 intro D gv hDS cx hcd σ N m w fr avs vs hM hfr hreps hp; obtain ⟨n, tg, a, b, c, d, r, f, xs, M, br, ns, ds, P, rfl, ha, hr, hf, hb, hc, hd, hP, hE⟩ := aC2 (k := k + 1) (fr := fr) hp; show Calls Tryz.prog 150 vs.toArray w fun e w' => ∃ v, e = .returned v ∧ Res cx σ N m w fr (wayC (k + 1) _ m fr) v w'; rw [hE]; have ne : ∀ {i j : Nat} {B C : Blk}, m i = B → m j = C → B ≠ C → i ≠ j := fun h1 h2 h e => h (by rw [← h1, ← h2, e])
 have cne : ∀ {e e' : Nat} {cs cs' : List C1}, e ≠ e' → Blk.cells e cs ≠ Blk.cells e' cs' := fun h q => by injection q with q1 _; exact h q1
 have hvs : ∃ v0 v1 v2 v3 v4 v5, vs = [v0, v1, v2, v3, v4, v5] ∧ repA (rx cx σ N m w) (.one (.int .i64 n)) v0 ∧ repA (rx cx σ N m w) (.one (.int .i64 tg)) v1 ∧ repA (rx cx σ N m w) (.one (.loc a 0)) v2 ∧ repA (rx cx σ N m w) (.one (.loc b 0)) v3 ∧ repA (rx cx σ N m w) (.one (.loc c 0)) v4 ∧ repA (rx cx σ N m w) (.one (.loc d 0)) v5 := by
  simp only [repAs] at hreps; obtain ⟨v0, r0, rfl, k0, v1, r1, rfl, k1, v2, r2, rfl, k2, v3, r3, rfl, k3, v4, r4, rfl, k4, v5, r5, rfl, k5, rfl⟩ := hreps; exact ⟨v0, v1, v2, v3, v4, v5, rfl, k0, k1, k2, k3, k4, k5⟩
 obtain ⟨v0, v1, v2, v3, v4, v5, rfl, k0, k1, k2, k3, k4, k5⟩ := hvs; have nod : [a, b, c, d, r, f].Nodup := by
  simp only [List.nodup_cons, List.mem_cons, List.not_mem_nil, or_false, not_or, not_false_eq_true, List.nodup_nil, and_true]; refine ⟨⟨ne ha hb (cne (by decide)), ne ha hc (cne (by decide)), ne ha hd (cne (by decide)), ne ha hr (by nofun), ne ha hf (by nofun)⟩, ⟨ne hb hc (cne (by decide)), ne hb hd (cne (by decide)), ne hb hr (by nofun), ne hb hf (by nofun)⟩, ⟨ne hc hd (cne (by decide)), ne hc hr (by nofun), ne hc hf (by nofun)⟩, ⟨ne hd hr (by nofun), ne hd hf (by nofun)⟩, ne hr hf (by nofun)⟩
 refine (cB2 eA0 rfl Tryz.func150 rfl 154818136561392464560134975 (G := ⟨[(132, con132.ctr), (150, (conWay k).ctr)], [], [(16, 10), (24, 10), (100, 10)], [], []⟩) (by kernel_rfl) (by decide) (hcd.1.symm ▸ hcd.2.symm ▸ (EnvOk.cons c132 has132 (EnvOk.cons ih has150 EnvOk.nil)).at_ hDS) hM hfr (by show 6 ≤ Tryz.f150.ntmps; decide) (wayL a b c d r f) (by show [2, 3, 4, 5, 6, 7].Nodup; decide) nod ?_ [] (fun p hp => (by simp)) (fun p hp => (by cases hp)) [(0, .one (.int .i64 n)), (1, .one (.int .i64 tg)), (2, .one (.loc 2 0)), (3, .one (.loc 3 0)), (4, .one (.loc 4 0)), (5, .one (.loc 5 0))] (way0 ns ds br xs M) ?_ ?_ (Y := Unit) (fun _ => True) (fun _ => [.one (.int .i64 (dstV ns br tg n))]) (fun _ => wayO ns ds br xs (mmF ns br tg (k + 1) n.toNat M)) (fun _ => []) ?_ ?_).mono ?_
 · intro p hp; simp only [wayL, List.mem_cons, List.not_mem_nil, or_false] at hp
   rcases hp with rfl | rfl | rfl | rfl | rfl | rfl
   · exact ⟨show 2 < 32 by decide, by simp only [ha]; rfl⟩
   · exact ⟨show 3 < 32 by decide, by simp only [hb]; rfl⟩
   · exact ⟨show 4 < 32 by decide, by simp only [hc]; rfl⟩
   · exact ⟨show 5 < 32 by decide, by simp only [hd]; rfl⟩
   · exact ⟨show 6 < 32 by decide, by simp only [hr]; rfl⟩
   · exact ⟨show 7 < 32 by decide, by simp only [hf]; rfl⟩
 · intro i hi
   rcases gA2 (d := Blk.dead) (way0 ns ds br xs M) i with e | e
   · exact absurd e hi
   · simp only [way0, List.mem_cons, List.not_mem_nil, or_false, Prod.mk.injEq] at e
     rcases e with ⟨rfl, _⟩ | ⟨rfl, _⟩ | ⟨rfl, _⟩ | ⟨rfl, _⟩ | ⟨rfl, _⟩ | ⟨rfl, _⟩
     · exact ⟨a, by simp [wayL]⟩
     · exact ⟨b, by simp [wayL]⟩
     · exact ⟨c, by simp [wayL]⟩
     · exact ⟨d, by simp [wayL]⟩
     · exact ⟨r, by simp [wayL]⟩
     · exact ⟨f, by simp [wayL]⟩
 · intro x1 hw hO hl; have hkp : Keep (rx cx σ N m w).w x1.w (rx cx σ N m w).O x1.O := keepsw (x := rx cx σ N m w) (y := x1) hw (fun b hb => hO b hb); have hσ : ∀ q, (q, rnL (wayL a b c d r f) fr q) ∈ wayL a b c d r f → ¬ x1.N q ∧ x1.σ q = (rx cx σ N m w).σ (rnL (wayL a b c d r f) fr q) := fun q hq => ⟨(hl _ _ hq).2, (hl _ _ hq).1⟩; have hin : ∀ q, 2 ≤ q → q ≤ 7 → (q, rnL (wayL a b c d r f) fr q) ∈ wayL a b c d r f := fun q h2 h7 => by
    match q, h2, h7 with
    | 2, _, _ => show (2, a) ∈ _; simp [wayL]
    | 3, _, _ => show (3, b) ∈ _; simp [wayL]
    | 4, _, _ => show (4, c) ∈ _; simp [wayL]
    | 5, _, _ => show (5, d) ∈ _; simp [wayL]
    | 6, _, _ => show (6, r) ∈ _; simp [wayL]
    | 7, _, _ => show (7, f) ∈ _; simp [wayL]
   have key : ∀ (i id : Nat) (B : Blk), (i, id) ∈ wayL a b c d r f → m id = rnB (rnL (wayL a b c d r f) fr) B → (∀ q ∈ idsX B, 2 ≤ q ∧ q ≤ 7) → repB x1 i B := fun i id B hi hB hx => by
    have h1 := hM.blk id; rw [hB] at h1; exact cD0 hw hkp hσ (hl i id hi).1 B (fun q hq => hin q (hx q hq).1 (hx q hq).2) h1
   refine ⟨fun i id hi => ?_, fun j v hj => ?_⟩
   · have hi0 := hi; simp only [wayL, List.mem_cons, List.not_mem_nil, or_false, Prod.mk.injEq] at hi
     rcases hi with ⟨rfl, rfl⟩ | ⟨rfl, rfl⟩ | ⟨rfl, rfl⟩ | ⟨rfl, rfl⟩ | ⟨rfl, rfl⟩ | ⟨rfl, rfl⟩
     · exact key 2 _ (.cells 35 [.row 6]) hi0 (ha.trans rfl) (by simp [idsX, idsB, fidB, idsCs, idsC])
     · exact key 3 _ (.cells 23 [.sl .bool br false]) hi0 (hb.trans rfl) (by simp [idsX, idsB, fidB, idsCs, idsC])
     · exact key 4 _ (.cells 30 [.sl yNO ns false, .sl yPL ds false]) hi0 (hc.trans rfl) (by simp [idsX, idsB, fidB, idsCs, idsC])
     · exact key 5 _ (.cells 76 [.fn 150 [.loc 2 0, .loc 3 0, .loc 4 0, .loc 5 0]]) hi0 (hd.trans rfl) (by simp [idsX, idsB, fidB, idsCs, idsC])
     · exact key 6 _ (.rowg 22 (.sl yI) 0 7 xs none) hi0 (hr.trans rfl) (by simp [idsX, idsB, fidB, idsCs, idsC])
     · exact key 7 _ (.fam 3 yI M) hi0 (hf.trans rfl) (by simp [idsX, idsB, fidB, idsCs, idsC])
   · simp only [List.mem_cons, List.not_mem_nil, or_false, Prod.mk.injEq] at hj; have kl : ∀ (q id : Nat) (v : Value), (q, id) ∈ wayL a b c d r f → 2 ≤ q → q ≤ 7 → repA (rx cx σ N m w) (.one (.loc id 0)) v → rnL (wayL a b c d r f) fr q = id → repA x1 (.one (.loc q 0)) v := fun q id v hq h2 h7 hv he => by
      unfold repA at hv ⊢; exact jC3 (ρ := rnL (wayL a b c d r f) fr) hkp hσ (.loc q 0) v (fun z hz => by
       simp only [idsC, List.mem_singleton] at hz; subst hz; exact hin z h2 h7) (by unfold rnC; rw [he]; exact hv)
     have ki : ∀ (z : Int) (v : Value), repA (rx cx σ N m w) (.one (.int .i64 z)) v → repA x1 (.one (.int .i64 z)) v := fun z v hv => by
      unfold repA repC at hv ⊢; exact hv
     rcases hj with ⟨rfl, rfl⟩ | ⟨rfl, rfl⟩ | ⟨rfl, rfl⟩ | ⟨rfl, rfl⟩ | ⟨rfl, rfl⟩ | ⟨rfl, rfl⟩
     · exact ki _ _ k0
     · exact ki _ _ k1
     · exact kl 2 a _ (by simp [wayL]) (by decide) (by decide) k2 rfl
     · exact kl 3 b _ (by simp [wayL]) (by decide) (by decide) k3 rfl
     · exact kl 4 c _ (by simp [wayL]) (by decide) (by decide) k4 rfl
     · exact kl 5 d _ (by simp [wayL]) (by decide) (by decide) k5 rfl
 · intro _ _; refine ⟨rfl, rfl, List.nodup_nil, fun p hp => (by cases hp), fun q hq => (by simp [idsAs, idsA, idsC] at hq), fun B hB q hq => ?_, fun p hp => (by cases hp)⟩; simp only [wayO, List.mem_cons, List.not_mem_nil, or_false] at hB
   rcases hB with rfl | rfl | rfl | rfl | rfl | rfl <;> simp [idsX, idsB, fidB, idsCs, idsC] at hq
   · subst hq; rfl
   · rcases hq with rfl | rfl | rfl | rfl <;> rfl
   · subst hq; rfl
 · intro X hT hG hk hK; exact aC5 k ns ds br n tg xs M a b c d r f hP rfl X hT hG hk hK
 · rintro e w' ⟨u, rfl, _, _, hres⟩; refine ⟨u, rfl, ?_⟩; obtain ⟨σ', q1, q2, q3, q4⟩ := hres; have hu := xD2 (fr := fr) (M' := mmF ns br tg (k + 1) n.toNat M) ha hr hf hb hc hd; dsimp only at q1 q2 q3; exact ⟨σ', hu ▸ q1, hu ▸ q2, hu ▸ q3, trivial⟩
end Go.Proofs.YtabadacjbkhmkaaGreatDoor
