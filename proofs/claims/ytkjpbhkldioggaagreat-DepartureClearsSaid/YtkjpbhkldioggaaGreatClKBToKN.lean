/- Part. -/
import Derived.Test.YtkjpbhkldioggaaGreatClKPToKE
import Derived.Test.YtkjpbhkldioggaaGreatClK2ToKM
import Derived.Test.YtkjpbhkldioggaaGreatEvBox
import Derived.Test.YtkjpbhkldioggaaGreatClKVToKC
set_option linter.all false
set_option maxRecDepth 100000
set_option maxHeartbeats 8000000
namespace Go.Proofs.YtkjpbhkldioggaaGreat
open Go.Ev
def isRowA : List AV → Bool
 | .one (.row _) :: _ => true
 | _ => false
def orCtr (A B : Ctr) : Ctr := fun avs m fr => if isRowA avs = true then A avs m fr else B avs m fr
theorem orCtr_ok {P : Program} {f : FuncId} {A B : Ctr} (hA : CtrOk P f A) (hB : CtrOk P f B) : CtrOk P f (orCtr A B) := by
 intro D gv hD cx hcx σ N m w fr avs vs h1 h2 h3 h4; unfold orCtr at h4 ⊢; by_cases h : isRowA avs = true
 · simp only [if_pos h] at h4 ⊢; exact hA D gv hD cx hcx σ N m w fr avs vs h1 h2 h3 h4
 · simp only [if_neg h] at h4 ⊢; exact hB D gv hD cx hcx σ N m w fr avs vs h1 h2 h3 h4
attribute [go_sem] isRowA orCtr
def setX (l : List Plt) : List (Plt × Unit) := l.foldl (fun m x => mset (kt := yPL) m x ()) []
theorem setX_push (l : List Plt) (x : Plt) : setX (l ++ [x]) = mset (kt := yPL) (setX l) x () := by
 unfold setX; rw [List.foldl_append]; rfl
theorem setX_in (x : Plt) : ∀ (l : List Plt), (mget (kt := yPL) (setX l) x).isSome = true ↔ x ∈ l := by
 have key : ∀ (l : List Plt) (m : List (Plt × Unit)), (mget (kt := yPL) (l.foldl (fun m x => mset (kt := yPL) m x ()) m) x).isSome = true ↔ (x ∈ l ∨ (mget (kt := yPL) m x).isSome = true) := by
  intro l
  induction l with
  | nil => intro m; simp
  | cons y l ih =>
    intro m; rw [List.foldl_cons, ih, mget_mset (kt := yPL) (β := Unit) keyEq_plt]; by_cases h : keyEq yPL x y = true
    · rw [if_pos h]; simp [(keyEq_plt x y).1 h]
    · rw [if_neg h]; have : x ≠ y := fun e => h ((keyEq_plt x y).2 e); simp [this]
 intro l; rw [setX, key]; simp [mget]
def con60 : Con := { ps := [.d true yCT, .p 3 yI], rs := [.d false .bool], pre := fun _ => True, out := fun (x : Cnt × Int × Unit) => (decide (x.1.num = x.2.1), ()), nw := id }
theorem c60 : CtrOk Tryz.prog 60 con60.ctr :=
 con_sound (G := ⟨[], [], [], [], []⟩) tab_ok EnvOk.nil rfl Tryz.func60 rfl con60 15 (by kernel_rfl) (by decide) (by decide) rfl (by decide) rfl (by
  rintro ⟨⟨(n : Int), ⟨a1, (a2 : Int), a3, (a4 : Int)⟩, (c : Int), (lm : Int), (t : Int), (p : Int), (r : Int), (l : List Pce)⟩, (k : Int), _⟩ hpre hwf X hT hG hk hK
  (simp -implicitDefEqProofs only [go_sem, bP, con60, hT, hG, hk, hK, Tryz.results60] at hwf ⊢))
def conIdxD : Con := { ps := [.d false (.sl yCT), .cl 60 [.p 3 yI]], rs := [.d false yI], pre := fun _ => True, out := fun (x : List Cnt × (Int × Unit) × Unit) => (numIdx x.1 x.2.1.1, ()), nw := id }
theorem cIdxD : CtrOk Tryz.prog 59 conIdxD.ctr :=
 con_sound (G := ⟨[(60, con60.ctr)], [], [], [], []⟩) tab_ok (EnvOk.cons c60 has60 EnvOk.nil) rfl Tryz.func59 rfl conIdxD 66483 (by kernel_rfl) (by decide) (by decide) rfl (by decide) rfl (by
  rintro ⟨(l : List Cnt), ⟨(n : Int), _⟩, _⟩ hpre hwf X hT hG hk hK
  skip
  (simp -implicitDefEqProofs only [go_sem, bP, conIdxD, con60, hT, hG, hk, hK, Tryz.results59] at hwf ⊢)
  clear hwf; refine fun _ => evk_loop ⟨{ i : Nat // i ≤ l.length ∧ ∀ k, k < i → (fun c : Cnt => decide (c.num = n)) (l.getD k ct0) = false }, 1000, fun q => [(0, .one (.sl yCT l false)), (1, .one (.fn 60 [.loc 12 0])), (4, .one (.int .i64 0)), (7, .one (.int .i64 l.length)), (8, .one (.int .i64 q.1))], fun q => [(12, .cells 3 [.int .i64 n])], fun q => l.length - q.1⟩ ⟨0, by omega, fun k hk => by omega⟩ ?_ ?_
  · simp only [go_sem]
    try first | rfl | (and_intros <;> first | trivial | rfl | omega)
  · rintro ⟨i, (hi : i ≤ l.length), hz⟩
    (simp -implicitDefEqProofs only [go_sem, bP, conIdxD, con60, hT, hG, hk, hK, Tryz.results59])
    obtain ⟨o, ho⟩ : ∃ o, l.getD i ct0 = o := ⟨_, rfl⟩; have eo : l.getD (i : Int).toNat (0, (ByteArray.empty, 0, ByteArray.empty, 0), 0, 0, 0, 0, 0, []) = o := ho
    try simp only [eo]
    (repeat' with_reducible first | refine And.intro ?_ ?_ | intro _) <;> try first | with_reducible (first | assumption | omega | contradiction) | decide
    all_goals first
     | (have h : o.1 = n := by assumption
        exact (idxV_at (d := ct0) hz (by omega) (by show decide ((l.getD i ct0).num = n) = true; rw [ho]; exact decide_eq_true h)).symm)
     | (have h : ¬ o.1 = n := by assumption
        refine fin_lp ⟨i + 1, by omega, lt_succ hz (by show decide ((l.getD i ct0).num = n) = false; rw [ho]; exact decide_eq_false h)⟩ (by simp only [go_sem]; first | rfl | ((repeat' apply And.intro) <;> first | rfl | assumption | omega)) (by dsimp only; omega)
        done)
     | exact (idxV_none (d := ct0) fun k hk => hz k (by omega)).symm)
def conIdxO : Con := { ps := [.o 85 yCT, .cl 60 [.p 3 yI]], rs := [.d false yI], pre := fun (x : List Cnt × (Int × Unit) × Unit) => x.1.length ≤ 1000000, out := fun (x : List Cnt × (Int × Unit) × Unit) => (numIdx x.1 x.2.1.1, ()), nw := id }
theorem cIdxO : CtrOk Tryz.prog 59 conIdxO.ctr :=
 con_sound (G := ⟨[(60, con60.ctr)], [], [], [], []⟩) tab_ok (EnvOk.cons c60 has60 EnvOk.nil) rfl Tryz.func59 rfl conIdxO 66483 (by kernel_rfl) (by decide) (by decide) rfl (by decide) rfl (by
  rintro ⟨(l : List Cnt), ⟨(n : Int), _⟩, _⟩ hpre hwf X hT hG hk hK; have hlp : l.length ≤ 1000000 := hpre
  (simp -implicitDefEqProofs only [go_sem, bP, conIdxO, con60, hT, hG, hk, hK, Tryz.results59] at hwf ⊢)
  clear hwf; refine fun _ => evk_loop ⟨{ i : Nat // i ≤ l.length ∧ ∀ k, k < i → (fun c : Cnt => decide (c.num = n)) (l.getD k ct0) = false }, 1000, fun q => [(0, .one (.row 0)), (1, .one (.fn 60 [.loc 12 0])), (4, .one (.int .i64 0)), (7, .one (.int .i64 l.length)), (8, .one (.int .i64 q.1))], fun q => [(0, .row 85 yCT l), (12, .cells 3 [.int .i64 n])], fun q => l.length - q.1⟩ ⟨0, by omega, fun k hk => by omega⟩ ?_ ?_
  · simp only [go_sem]
    try first | rfl | (and_intros <;> first | trivial | rfl | omega)
  · rintro ⟨i, (hi : i ≤ l.length), hz⟩
    (simp -implicitDefEqProofs only [go_sem, bP, conIdxO, con60, hT, hG, hk, hK, Tryz.results59])
    obtain ⟨o, ho⟩ : ∃ o, l.getD i ct0 = o := ⟨_, rfl⟩; have eo : l.getD (i : Int).toNat (0, (ByteArray.empty, 0, ByteArray.empty, 0), 0, 0, 0, 0, 0, []) = o := ho
    try simp only [eo]
    (repeat' with_reducible first | refine And.intro ?_ ?_ | intro _) <;> try first | with_reducible (first | assumption | omega | contradiction) | decide
    all_goals first
     | (have h : o.1 = n := by assumption
        exact (idxV_at (d := ct0) hz (by omega) (by show decide ((l.getD i ct0).num = n) = true; rw [ho]; exact decide_eq_true h)).symm)
     | (have h : ¬ o.1 = n := by assumption
        refine fin_lp ⟨i + 1, by omega, lt_succ hz (by show decide ((l.getD i ct0).num = n) = false; rw [ho]; exact decide_eq_false h)⟩ (by simp only [go_sem]; first | rfl | ((repeat' apply And.intro) <;> first | rfl | assumption | omega)) (by dsimp only; omega)
        done)
     | exact (idxV_none (d := ct0) fun k hk => hz k (by omega)).symm)
def conNumD : Con := { ps := [.d false (.sl yCT), .d false yI], rs := [.d false yI], pre := fun _ => True, out := fun (x : List Cnt × Int × Unit) => (numIdx x.1 x.2.1, ()), nw := id }
theorem cNumD : CtrOk Tryz.prog 24 conNumD.ctr :=
 con_sound (G := ⟨[(59, conIdxD.ctr)], [], [], [], []⟩) tab_ok (EnvOk.cons cIdxD has59 EnvOk.nil) rfl Tryz.func24 rfl conNumD 27 (by kernel_rfl) (by decide) (by decide) rfl (by decide) rfl (by
  rintro ⟨(l : List Cnt), (n : Int), _⟩ hpre hwf X hT hG hk hK
  skip
  (simp -implicitDefEqProofs only [go_sem, bP, conNumD, conIdxD, hT, hG, hk, hK, Tryz.results24] at hwf ⊢)
  skip)
def conNumO : Con := { ps := [.o 85 yCT, .d false yI], rs := [.d false yI], pre := fun (x : List Cnt × Int × Unit) => x.1.length ≤ 1000000, out := fun (x : List Cnt × Int × Unit) => (numIdx x.1 x.2.1, ()), nw := id }
theorem cNumO : CtrOk Tryz.prog 24 conNumO.ctr :=
 con_sound (G := ⟨[(59, conIdxO.ctr)], [], [], [], []⟩) tab_ok (EnvOk.cons cIdxO has59 EnvOk.nil) rfl Tryz.func24 rfl conNumO 27 (by kernel_rfl) (by decide) (by decide) rfl (by decide) rfl (by
  rintro ⟨(l : List Cnt), (n : Int), _⟩ hpre hwf X hT hG hk hK; have hlp : l.length ≤ 1000000 := hpre
  (simp -implicitDefEqProofs only [go_sem, bP, conNumO, conIdxO, hT, hG, hk, hK, Tryz.results24] at hwf ⊢)
  exact hlp)
def conNum : Raw := ⟨orCtr conNumO.ctr conNumD.ctr⟩
theorem cNum : CtrOk Tryz.prog 24 conNum.ctr := orCtr_ok cNumO cNumD
def con28 : BCon := { ps := [.d true yPC, .bx], rs := [.d false .bool], e := 79, k := .map yPL .unit true true, pre := fun _ _ => True, out := fun (x : Pce × Unit × Unit) z => ((mget (kt := yPL) z x.1.1).isSome, ()), nw := fun x _ => x, nx := fun _ z => z }
theorem c28 : CtrOk Tryz.prog 28 con28.ctr :=
 box_sound (G := ⟨[], [], [], [], []⟩) tab_ok EnvOk.nil rfl Tryz.func28 rfl con28 47 (by kernel_rfl) (by decide) (by decide) rfl (by decide) rfl (by
  rintro ⟨⟨⟨(a : Int), (b : Int), (c : Int)⟩, (d : Int), (e : Int)⟩, _⟩ (z : List (Plt × Unit)) hpre hwf X hT hG hk hK
  (simp -implicitDefEqProofs only [go_sem, bP, con28, hT, hG, hk, hK, Tryz.results28] at hwf ⊢))
theorem idxV_m1 {α : Type} {p : α → Bool} {l : List α} (h : idxV p l < 0) : idxV p l = -1 := by
 unfold idxV at h ⊢; split at h
 · omega
 · rfl
def fz (z : List (Plt × Unit)) (x : Pce) : Bool := (mget (kt := yPL) z x.1).isSome
def conM61 : BCon := { ps := [.o 59 yPC, .cl 28 [.bx]], rs := [.d false yI], e := 79, k := .map yPL .unit true true, pre := fun _ _ => True, out := fun (x : List Pce × (Unit × Unit) × Unit) z => (idxV (fz z) x.1, ()), nw := fun x _ => x, nx := fun _ z => z }
theorem cM61 : CtrOk Tryz.prog 61 conM61.ctr :=
 box_sound (G := ⟨[(28, con28.ctr)], [], [], [], []⟩) tab_ok (EnvOk.cons c28 has28 EnvOk.nil) rfl Tryz.func61 rfl conM61 66483 (by kernel_rfl) (by decide) (by decide) rfl (by decide) rfl (by
  rintro ⟨(l : List Pce), _⟩ (z : List (Plt × Unit)) hpre hwf X hT hG hk hK
  (simp -implicitDefEqProofs only [go_sem, bP, conM61, con28, hT, hG, hk, hK, Tryz.results61] at hwf ⊢)
  clear hwf; refine fun _ => evk_loop ⟨{ i : Nat // i ≤ l.length ∧ ∀ k, k < i → fz z (l.getD k pc0) = false }, 1000, fun q => [(0, .one (.row 0)), (1, .one (.fn 28 [.loc 31 0])), (4, .one (.int .i64 0)), (7, .one (.int .i64 l.length)), (8, .one (.int .i64 q.1))], fun q => [(0, .row 59 yPC l), (31, .cells 79 [.map 40]), (40, .mapb yPL .unit true true z)], fun q => l.length - q.1⟩ ⟨0, by omega, fun k hk => by omega⟩ ?_ ?_
  · simp only [go_sem]
    try first | rfl | (and_intros <;> first | trivial | rfl | omega)
  · rintro ⟨i, (hi : i ≤ l.length), hz⟩
    (simp -implicitDefEqProofs only [go_sem, bP, conM61, con28, hT, hG, hk, hK, Tryz.results61])
    obtain ⟨o, ho⟩ : ∃ o, l.getD i pc0 = o := ⟨_, rfl⟩; have eo : l.getD (i : Int).toNat ((0, 0, 0), 0, 0) = o := ho
    try simp only [eo]
    have eO : (o.1.1, o.1.2.1, o.1.2.2) = o.1 := rfl
    try simp only [eO]
    (repeat' with_reducible first | refine And.intro ?_ ?_ | intro _) <;> try first | with_reducible (first | assumption | omega | contradiction) | decide
    all_goals first
     | (have h : (mget (kt := yPL) z o.1).isSome = true := by assumption
        exact (idxV_at (d := pc0) hz (by omega) (by rw [ho]; exact h)).symm)
     | (have h : (mget (kt := yPL) z o.1).isSome = false := by assumption
        refine fin_lp ⟨i + 1, by omega, lt_succ hz (by rw [ho]; exact h)⟩ (by simp only [go_sem]; first | rfl | ((repeat' apply And.intro) <;> first | rfl | assumption | omega)) (by dsimp only; omega)
        done)
     | exact (idxV_none (d := pc0) fun k hk => hz k (by omega)).symm)
def conM26 : BCon := { ps := [.oc 59 yPC, .cl 28 [.bx]], rs := [.o 59 yPC], e := 79, k := .map yPL .unit true true, pre := fun (x : List Pce × (Unit × Unit) × Unit) _ => x.1.length ≤ 1048576, out := fun (x : List Pce × (Unit × Unit) × Unit) z => (x.1.filter (fun x => !fz z x), ()), nw := fun x _ => x, nx := fun _ z => z }
theorem cM26 : CtrOk Tryz.prog 26 conM26.ctr :=
 box_sound (G := ⟨[(61, conM61.ctr), (28, con28.ctr)], [], [(13, 2), (38, 1), (41, 2)], [], []⟩) tab_ok (EnvOk.cons cM61 has61 (EnvOk.cons c28 has28 EnvOk.nil)) rfl Tryz.func26 rfl conM26 537399539 (by kernel_rfl) (by decide) (by decide) rfl (by decide) rfl (by
  rintro ⟨(l : List Pce), _⟩ (z : List (Plt × Unit)) hpre hwf X hT hG hk hK; have hl : l.length ≤ 1048576 := hpre
  (simp -implicitDefEqProofs only [go_sem, bP, conM26, conM61, con28, hT, hG, hk, hK, Tryz.results26] at hwf ⊢)
  clear hwf; obtain ⟨F, hF⟩ : ∃ F : Pce → Bool, F = fun x => !fz z x := ⟨_, rfl⟩; have hFa : ∀ x, F x = !fz z x := fun x => by rw [hF]
  have hfe : (fun x => !fz z x) = F := hF.symm; simp only [hfe]; refine fun _ => ⟨fun h => ?_, fun h => ?_⟩
  · have := idxV_neg (p := fz z) (l := l) (by omega); rw [List.filter_eq_self.2 fun x hx => by rw [hFa, this x hx]; rfl]
  · have hn : 0 ≤ idxV (fz z) l := by
     apply Classical.byContradiction; intro hq; have := idxV_m1 (p := fz z) (l := l) (by omega); exact h this
    obtain ⟨hi, h2, h3⟩ := idxV_spec (d := pc0) hn; obtain ⟨i, hq⟩ : ∃ i : Nat, idxV (fz z) l = i := ⟨(idxV (fz z) l).toNat, by omega⟩; rw [hq] at hi h2 h3 ⊢; have hi : i < l.length := hi; have h2 : fz z (l.getD i pc0) = true := h2; have h3 : ∀ k, k < i → fz z (l.getD k pc0) = false := h3; refine ⟨⟨by omega, by omega⟩, ?_⟩; have b0 : (l.take i).filter F = l.take i := List.filter_eq_self.2 fun x hx => by
     obtain ⟨k, hk, rfl⟩ := getD_pc hx; have hki : k < i := by rw [List.length_take] at hk; omega
     rw [hFa, gdE, List.getElem?_take_of_lt hki, ← gdE, h3 k hki]; rfl
    have b1 : l.take i = (l.take (i + 1)).filter F := by
     rw [tsE hi, List.filter_append, b0, ← getD_lt (d := pc0) hi, List.filter_cons_of_neg (by rw [hFa, h2]; simp)]; simp
    refine evk_loop ⟨{ q : Nat × Nat × List Pce // q.1 ≤ q.2.1 ∧ q.2.1 ≤ l.length ∧ q.2.2.length = l.length ∧ q.2.2.take q.1 = (l.take q.2.1).filter F ∧ q.2.2.drop q.2.1 = l.drop q.2.1 }, 1000, fun q => [(0, .one (.row 0)), (1, .one (.fn 28 [.loc 31 0])), (5, .one (.int .i64 q.1.1)), (6, .one (.int .i64 q.1.2.1))], fun q => [(0, .row 59 yPC q.1.2.2), (31, .cells 79 [.map 40]), (40, .mapb yPL .unit true true z)], fun q => l.length - q.1.2.1⟩ ⟨(i, i + 1, l), Nat.le_succ i, hi, rfl, b1, rfl⟩ ?_ ?_
    · simp only [go_sem]
      try first | rfl | (and_intros <;> first | trivial | rfl | omega)
    · rintro ⟨⟨a, r, R⟩, (c1 : a ≤ r), (c2 : r ≤ l.length), (c3 : R.length = l.length), (c4 : R.take a = (l.take r).filter F), (c5 : R.drop r = l.drop r)⟩
      (simp -implicitDefEqProofs only [go_sem, bP, conM26, conM61, con28, hT, hG, hk, hK, Tryz.results26])
      refine fun _ => ⟨fun hlt => ?_, fun hge => ?_⟩
      · have hr : r < R.length := by omega
        have hr2 : r < l.length := by omega
        obtain ⟨o, ho⟩ : ∃ o, l.getD r pc0 = o := ⟨_, rfl⟩; have hRr : R.getD r pc0 = o := by
         have := congrArg (fun q => q.getD 0 pc0) c5; simp only [gdE, List.getElem?_drop, Nat.add_zero] at this; rw [gdE, this, ← gdE, ho]
        have eo : R.getD (r : Int).toNat ((0, 0, 0), 0, 0) = o := hRr; have eO : (o.1.1, o.1.2.1, o.1.2.2) = o.1 := rfl; simp only [eo, eO]; have hd : R.drop (r + 1) = l.drop (r + 1) := by rw [← List.drop_drop, c5, List.drop_drop]
        have hst : (l.take (r + 1)).filter F = (l.take r).filter F ++ (if F o = true then [o] else []) := by
         rw [tsE hr2, List.filter_append, ← getD_lt (d := pc0) hr2, ho]; by_cases q : F o = true
         · rw [if_pos q, List.filter_cons_of_pos q]; rfl
         · rw [if_neg q, List.filter_cons_of_neg q]; rfl
        (repeat' with_reducible first | refine And.intro ?_ ?_ | intro _) <;> try first | with_reducible (first | assumption | omega | contradiction) | decide
        all_goals first
         | (have h0 : (mget (kt := yPL) z o.1).isSome = false := by assumption
            have h1 : F o = true := by rw [hFa]; unfold fz; rw [h0]; rfl
            have har : a < R.length := by omega
            refine fin_lp ⟨(a + 1, r + 1, R.set a o), by dsimp only; omega, by dsimp only; omega, by dsimp only; rw [List.length_set]; exact c3, ?_, ?_⟩ ?_ (by dsimp only; omega)
            · dsimp only; rw [hst, if_pos h1, ← c4, tsE (by rw [List.length_set]; omega), List.take_set_of_le (Nat.le_refl _), List.getElem_set_self]
            · dsimp only; rw [List.drop_set_of_lt (by omega), hd]
            · simp only [go_sem]
              try first | rfl | (and_intros <;> first | trivial | rfl | omega)
              done)
         | (have h0 : (mget (kt := yPL) z o.1).isSome = true := by assumption
            have h1 : ¬ F o = true := by rw [hFa]; unfold fz; rw [h0]; simp
            refine fin_lp ⟨(a, r + 1, R), by dsimp only; omega, by dsimp only; omega, c3, by dsimp only; rw [hst, if_neg h1, List.append_nil]; exact c4, hd⟩ ?_ (by dsimp only; omega); simp only [go_sem]
            try first | rfl | (and_intros <;> first | trivial | rfl | omega)
            done)
      · refine ⟨by omega, ?_⟩; have hr : r = l.length := by omega
        have e1 : (a : Int).toNat = a := by omega
        have e2 : ((R.length : Int) - (a : Int)).toNat = R.length - a := by omega
        have e3 : (a + (R.length - a) ≤ R.length) = True := by rw [eq_iff_iff, iff_true]; omega
        (simp -implicitDefEqProofs only [go_sem, bP, conM26, conM61, con28, hT, hG, hk, hK, Tryz.results26, e1, e2, e3])
        have e5 : (R.take a).length = a := by rw [List.length_take]; omega
        have e4 : List.take a (List.take a R ++ (List.replicate (R.length - a) ((0, 0, 0), 0, 0) ++ List.drop (a + (R.length - a)) R)) = l.filter F := by
         rw [List.take_append_of_le_length (by omega), List.take_of_length_le (by omega), c4, hr, List.take_of_length_le (Nat.le_refl _)]
        simp only [hfe]
        (repeat' with_reducible first | refine And.intro ?_ ?_ | intro _) <;> try first | with_reducible (first | assumption | omega | contradiction) | decide
        all_goals first
         | exact e4
         | (rw [List.length_append, e5]; omega))
attribute [local go_sem] List.set_cons_succ List.set_cons_zero List.set_nil
def numsIn (c : List Cnt) (l : List Opn) : Bool := l.all (fun o => decide (0 ≤ numIdx c o.box))
def clrC (ps : List Plt) (o : Cnt) : Cnt := setPcs o (o.pcs.filter (fun x => !decide (x.1 ∈ ps)))
def forceAll : List Plc → List Cnt → List Cnt × Int
 | [], out => (out, 0)
 | x :: P, out => if x.2.1 = 0 then forceAll P out else if (forceV (out.getD (numIdx out x.2.1).toNat ct0) x.1).2 ≠ 0 then ([], (forceV (out.getD (numIdx out x.2.1).toNat ct0) x.1).2) else forceAll P (out.set (numIdx out x.2.1).toNat (forceV (out.getD (numIdx out x.2.1).toNat ct0) x.1).1)
def applyV (c : List Cnt) (l : List Opn) : List Cnt × Int :=
 if checkV c ≠ 0 then ([], checkV c) else if valV l ≠ 0 then ([], valV l) else if numsIn c l = false then ([], 6) else forceAll (placesV l) (c.map (clrC ((placesV l).map (fun x => x.1.1))))
theorem fz_in (ps : List Plt) (x : Pce) : fz (setX ps) x = decide (x.1 ∈ ps) := by
 rw [Bool.eq_iff_iff, decide_eq_true_eq]; exact setX_in x.1 ps
theorem numIdx_nums {a b : List Cnt} (h : a.map (fun c => c.num) = b.map (fun c => c.num)) (n : Int) : numIdx a n = numIdx b n := by
 have key : ∀ a : List Cnt, numIdx a n = idxV (fun m => decide (m = n)) (a.map (fun c => c.num)) := fun a => by
  unfold numIdx idxV; rw [List.findIdx?_map]; rfl
 rw [key, key, h]
theorem placesV_box {l : List Opn} {z : Plc} (h : z ∈ placesV l) : z.2.1 = 0 ∨ ∃ o ∈ l, o.box = z.2.1 := by
 unfold placesV at h; split at h
 · cases h
 · obtain ⟨p, hp, rfl⟩ := List.mem_map.1 h; have hne := about_ne hp; unfold placeV; dsimp only; split
   · right; have hl : 0 < (aboutP l p).length := List.length_pos_iff.2 hne; have hm : (aboutP l p).getD ((aboutP l p).length - 1) o0 ∈ aboutP l p := getD_mem (by omega); exact ⟨_, (List.mem_filter.1 hm).1, rfl⟩
   · exact .inl rfl
theorem forceV_num {c : Cnt} {x : Pce} (h : (forceV c x).2 = 0) : (forceV c x).1.num = c.num := by
 unfold forceV at h ⊢; split at h
 · rename_i q; exact absurd h q
 · rename_i q; rw [if_neg q]; split at h
   · cases h
   · rename_i q2; rw [if_neg q2]; split at h
     · cases h
     · rename_i q3; rw [if_neg q3]; split at h
       · cases h
       · rename_i q4; rw [if_neg q4]; rfl
def con8 : Con := { ps := [.d false (.sl yCT), .d false (.sl yOP)], rs := [.d false (.sl yCT), .d false yI], pre := fun _ => True, out := fun (x : List Cnt × List Opn × Unit) => ((applyV x.1 x.2.1).1, (applyV x.1 x.2.1).2, ()), nw := id }
theorem c8 : CtrOk Tryz.prog 8 con8.ctr :=
 con_sound (G := ⟨[(22, con22.ctr), (23, con23.ctr), (24, conNum.ctr), (10, con10.ctr), (25, con25.ctr), (27, con27.ctr), (26, conM26.ctr), (28, con28.ctr), (29, con29.ctr)], [], [], [], []⟩) tab_ok (EnvOk.cons c22 has22 (EnvOk.cons c23 has23 (EnvOk.cons cNum has24 (EnvOk.cons c10 has10 (EnvOk.cons c25 has25 (EnvOk.cons c27 has27 (EnvOk.cons cM26 has26 (EnvOk.cons c28 has28 (EnvOk.cons c29 has29 EnvOk.nil))))))))) rfl Tryz.func8 rfl con8 5070684305653338455940848873203 (by kernel_rfl) (by decide) (by decide) rfl (by decide) rfl (by
  rintro ⟨(c : List Cnt), (l : List Opn), _⟩ hpre hwf X hT hG hk hK
  (simp -implicitDefEqProofs only [go_sem, bP, con8, con22, con23, conNum, con10, con25, con27, conM26, con28, con29, hT, hG, hk, hK, Tryz.results8, conNumO, conNumD] at hwf ⊢); (try simp (disch := decide +kernel) only [drawn, true_and, and_true])
  clear hwf; refine fun _ => ⟨fun h => ?_, fun h1 _ => ⟨fun h2 => ?_, fun h2 hll => ?_⟩⟩
  · have e : applyV c l = ([], checkV c) := by unfold applyV; rw [if_pos h]
    rw [e]; exact ⟨rfl, rfl⟩
  · have e : applyV c l = ([], valV l) := by unfold applyV; rw [if_neg (by simp [h1]), if_pos h2]
    rw [e]; exact ⟨rfl, rfl⟩
  · have hok := checkV_iff.1 h1; have hcl := hok.len; have hcp : ∀ o ∈ c, o.pcs.length ≤ 60 := fun o ho => (hok.ok o ho).2.1; have hA : applyV c l = if numsIn c l = false then ([], 6) else forceAll (placesV l) (c.map (clrC ((placesV l).map (fun x => x.1.1)))) := by
     unfold applyV; rw [if_neg (by simp [h1]), if_neg (by simp [h2])]
    refine evk_loop ⟨{ i : Nat // i ≤ l.length ∧ ∀ k, k < i → 0 ≤ numIdx c (l.getD k o0).box }, 1000, fun q => [(0, .one (.sl yCT c false)), (1, .one (.sl yOP l false)), (31, .one (.sl yOP l false)), (32, .one (.int .i64 l.length)), (33, .one (.int .i64 q.1))], fun q => [], fun q => l.length - q.1⟩ ⟨0, Nat.zero_le _, fun k hk => by omega⟩ ?_ ?_
    · simp only [go_sem]
      try first | rfl | (and_intros <;> first | trivial | rfl | omega)
    · rintro ⟨i, (hi : i ≤ l.length), hz⟩; have hz : ∀ k, k < i → 0 ≤ numIdx c (l.getD k o0).box := hz
      (simp -implicitDefEqProofs only [go_sem, bP, con8, con22, con23, conNum, con10, con25, con27, conM26, con28, con29, hT, hG, hk, hK, Tryz.results8, conNumO, conNumD]); (try simp (disch := decide +kernel) only [drawn, true_and, and_true])
      obtain ⟨o, ho⟩ : ∃ o, l.getD i o0 = o := ⟨_, rfl⟩; have eo : l.getD (i : Int).toNat (0, 0, 0, 0, 0, (0, 0, 0), 0, 0) = o := ho
      try simp only [eo]
      (repeat' with_reducible first | refine And.intro ?_ ?_ | intro _) <;> try first | with_reducible (first | assumption | omega | contradiction) | decide
      all_goals first
       | (have hq : numIdx c o.2.2.2.2.1 < 0 := by assumption
          have e : applyV c l = ([], 6) := by
           rw [hA, if_pos]; unfold numsIn; rw [List.all_eq_false]; exact ⟨o, by rw [← ho]; exact getD_mem (by omega), by rw [decide_eq_true_eq]; show ¬ 0 ≤ numIdx c o.2.2.2.2.1; omega⟩
          first | (rw [e]; done) | (rw [e]; rfl))
       | (have hq : ¬ numIdx c o.2.2.2.2.1 < 0 := by assumption
          refine fin_lp ⟨i + 1, (by omega), lt_succ' hz (by rw [ho]; show 0 ≤ numIdx c o.2.2.2.2.1; omega)⟩ ?_ (by dsimp only; omega); simp only [go_sem]
          try first | rfl | (and_intros <;> first | trivial | rfl | omega)
          done)
       | (have hni : ∀ o ∈ l, 0 ≤ numIdx c o.box := fun o ho => by
           obtain ⟨k, hk2, rfl⟩ := mem_getD (d := o0) ho; exact hz k (by omega)
          have hA2 : applyV c l = forceAll (placesV l) (c.map (clrC ((placesV l).map (fun x => x.1.1)))) := by
           rw [hA, if_neg]; unfold numsIn; rw [Bool.not_eq_false, List.all_eq_true]; exact fun o ho => decide_eq_true (hni o ho)
          have hbx : ∀ z ∈ placesV l, z.2.1 = 0 ∨ 0 ≤ numIdx c z.2.1 := fun z hz => by
           rcases placesV_box hz with h | ⟨o, ho, h⟩
           · exact .inl h
           · exact .inr (by rw [← h]; exact hni o ho)
          have hPl := placesV_len l; generalize hPe : placesV l = P at hA2 hbx hPl ⊢; obtain ⟨ps, hps⟩ : ∃ ps : List Plt, P.map (fun x => x.1.1) = ps := ⟨_, rfl⟩; rw [hps] at hA2; refine evk_loop ⟨{ i : Nat // i ≤ P.length }, 1000, fun q => [(0, .one (.sl yCT c false)), (10, .one (.sl yPM P false)), (11, .one (.loc 70 0)), (46, .one (.sl yPM P false)), (47, .one (.int .i64 P.length)), (48, .one (.int .i64 q.1))], fun q => [(70, .cells 79 [.map 71]), (71, .mapb yPL .unit true true (setX ((P.take q.1).map (fun x => x.1.1))))], fun q => P.length - q.1⟩ ⟨0, Nat.zero_le _⟩ ?_ ?_
          · simp only [go_sem]
            try first | rfl | (and_intros <;> first | trivial | rfl | omega)
          · rintro ⟨i, (hi : i ≤ P.length)⟩
            (simp -implicitDefEqProofs only [go_sem, bP, con8, con22, con23, conNum, con10, con25, con27, conM26, con28, con29, hT, hG, hk, hK, Tryz.results8, conNumO, conNumD]); (try simp (disch := decide +kernel) only [drawn, true_and, and_true])
            obtain ⟨o, ho⟩ : ∃ o, P.getD i pm0 = o := ⟨_, rfl⟩; have eo : P.getD (i : Int).toNat (((0, 0, 0), 0, 0), 0, []) = o := ho
            try simp only [eo]
            have hsx : i < P.length → setX ((P.take (i + 1)).map (fun x => x.1.1)) = mset (kt := yPL) (setX ((P.take i).map (fun x => x.1.1))) o.1.1 () := fun h => by
             rw [← setX_push, tsE h, List.map_append, ← getD_lt (d := pm0) h, ho]; rfl
            (repeat' with_reducible first | refine And.intro ?_ ?_ | intro _) <;> try first | with_reducible (first | assumption | omega | contradiction) | decide
            all_goals first
             | (have e1 := hsx (by omega)
                refine fin_lp ⟨i + 1, by omega⟩ ?_ (by dsimp only; omega); simp only [go_sem]; rw [e1]
                try first | rfl | (and_intros <;> first | trivial | rfl | omega)
                done)
             | omega
             | (have e4 : P.take i = P := List.take_of_length_le (by omega)
                simp only [e4, hps]; refine evk_loop ⟨{ i : Nat // i ≤ c.length }, 1000, fun q => [(10, .one (.sl yPM P false)), (11, .one (.loc 70 0)), (14, .one (.row 73)), (61, .one (.int .i64 c.length)), (62, .one (.int .i64 q.1))], fun q => [(70, .cells 79 [.map 71]), (71, .mapb yPL .unit true true (setX ps)), (73, .row 85 yCT ((c.take q.1).map (clrC ps) ++ c.drop q.1))], fun q => c.length - q.1⟩ ⟨0, Nat.zero_le _⟩ ?_ ?_
                · simp only [go_sem]
                  try first | rfl | (and_intros <;> first | trivial | rfl | omega)
                · rintro ⟨i, (hi : i ≤ c.length)⟩
                  (simp -implicitDefEqProofs only [go_sem, bP, con8, con22, con23, conNum, con10, con25, con27, conM26, con28, con29, hT, hG, hk, hK, Tryz.results8, conNumO, conNumD]); (try simp (disch := decide +kernel) only [drawn, true_and, and_true])
                  obtain ⟨o, ho⟩ : ∃ o, c.getD i ct0 = o := ⟨_, rfl⟩; have hrl : ((c.take i).map (clrC ps) ++ c.drop i).length = c.length := by simp; omega
                  have hro : i < c.length → ((c.take i).map (clrC ps) ++ c.drop i).getD (i : Int).toNat (0, (ByteArray.empty, 0, ByteArray.empty, 0), 0, 0, 0, 0, 0, []) = o := fun h => by
                   rw [show (i : Int).toNat = i by omega, gdE, List.getElem?_append_right (by simp; omega), List.length_map, List.length_take, show i - min i c.length = 0 by omega, List.getElem?_drop, Nat.add_zero, ← ho, gdE]; rfl
                  have hsx : i < c.length → ((c.take i).map (clrC ps) ++ c.drop i).set (i : Int).toNat (clrC ps o) = (c.take (i + 1)).map (clrC ps) ++ c.drop (i + 1) := fun h => by
                   rw [show (i : Int).toNat = i by omega, List.set_append_right _ _ (by simp; omega), List.length_map, List.length_take, show i - min i c.length = 0 by omega, List.drop_eq_getElem_cons h, List.set_cons_zero, tsE h, List.map_append, ← getD_lt (d := ct0) h, ho]; simp
                  simp only [hrl]; refine ⟨fun hlt => ?_, fun hge => ?_⟩
                  · have hro := hro (by omega); have hsx := hsx (by omega); have hop := hcp o (by rw [← ho]; exact getD_mem (by omega)); have hop2 : List.length o.2.2.2.2.2.2.2 ≤ 60 := hop; have ec : (o.1, o.2.1, o.2.2.1, o.2.2.2.1, o.2.2.2.2.1, o.2.2.2.2.2.1, o.2.2.2.2.2.2.1, List.filter (fun x => !fz (setX ps) x) o.2.2.2.2.2.2.2) = clrC ps o := by
                     unfold clrC setPcs; simp only [fz_in]
                    simp only [hro]
                    (repeat' with_reducible first | refine And.intro ?_ ?_ | intro _) <;> try first | with_reducible (first | assumption | omega | contradiction) | decide
                    all_goals first
                     | (refine fin_lp ⟨i + 1, by omega⟩ ?_ (by dsimp only; omega)
                        simp only [go_sem]; simp only [ec, hsx]
                        try first | rfl | (and_intros <;> first | trivial | rfl | omega)
                        done)
                     | omega
                  · have e4 : (c.take i).map (clrC ps) ++ c.drop i = c.map (clrC ps) := by
                     rw [List.take_of_length_le (by omega), List.drop_of_length_le (by omega), List.append_nil]
                    simp only [e4]
                    (repeat' with_reducible first | refine And.intro ?_ ?_ | intro _) <;> try first | with_reducible (first | assumption | omega | contradiction) | decide
                    all_goals first
                     | omega
                     | (refine evk_loop ⟨{ q : Nat × List Cnt // q.1 ≤ P.length ∧ forceAll (P.drop q.1) q.2 = forceAll P (c.map (clrC ps)) ∧ q.2.map (fun c => c.num) = c.map (fun c => c.num) }, 1000, fun q => [(10, .one (.sl yPM P false)), (14, .one (.row 73)), (78, .one (.sl yPM P false)), (79, .one (.int .i64 P.length)), (80, .one (.int .i64 q.1.1))], fun q => [(73, .row 85 yCT q.1.2)], fun q => P.length - q.1.1⟩ ⟨(0, c.map (clrC ps)), Nat.zero_le _, rfl, by rw [List.map_map]; rfl⟩ ?_ ?_
                        · simp only [go_sem]
                          try first | rfl | (and_intros <;> first | trivial | rfl | omega)
                        · rintro ⟨⟨j, R⟩, (hj : j ≤ P.length), (hf : forceAll (P.drop j) R = forceAll P (c.map (clrC ps))), (hnm : R.map (fun c => c.num) = c.map (fun c => c.num))⟩
                          (simp -implicitDefEqProofs only [go_sem, bP, con8, con22, con23, conNum, con10, con25, con27, conM26, con28, con29, hT, hG, hk, hK, Tryz.results8, conNumO, conNumD]); (try simp (disch := decide +kernel) only [drawn, true_and, and_true])
                          have hRl : R.length = c.length := by have := congrArg List.length hnm; rw [List.length_map, List.length_map] at this; exact this
                          obtain ⟨o, ho⟩ : ∃ o, P.getD j pm0 = o := ⟨_, rfl⟩; have eo : P.getD (j : Int).toNat (((0, 0, 0), 0, 0), 0, []) = o := ho; have hbo : j < P.length → o.2.1 = 0 ∨ 0 ≤ numIdx R o.2.1 := fun h => by
                           rw [numIdx_nums hnm]; exact hbx o (by rw [← ho]; exact getD_mem h)
                          have hsp : 0 ≤ numIdx R o.2.1 → (numIdx R o.2.1).toNat < R.length := fun h => (idxV_spec (d := ct0) h).1; have hdr : j < P.length → P.drop j = o :: P.drop (j + 1) := fun h => by rw [List.drop_eq_getElem_cons h, ← getD_lt (d := pm0) h, ho]
                          simp only [eo]; obtain ⟨q, hq⟩ : ∃ q, R.getD (numIdx R o.2.1).toNat ct0 = q := ⟨_, rfl⟩; have eq1 : R.getD (numIdx R o.2.1).toNat (0, (ByteArray.empty, 0, ByteArray.empty, 0), 0, 0, 0, 0, 0, []) = q := hq; have eO : ((o.1.1.1, o.1.1.2.1, o.1.1.2.2), o.1.2.1, o.1.2.2) = o.1 := rfl; have eQ : (q.1, (q.2.1.1, q.2.1.2.1, q.2.1.2.2.1, q.2.1.2.2.2), q.2.2.1, q.2.2.2.1, q.2.2.2.2.1, q.2.2.2.2.2.1, q.2.2.2.2.2.2.1, q.2.2.2.2.2.2.2) = q := rfl
                          try simp only [eq1, eO, eQ]
                          obtain ⟨W, hW⟩ : ∃ W, forceV q o.1 = W := ⟨_, rfl⟩
                          try simp only [hW]
                          have hst : j < P.length → forceAll (P.drop j) R = if o.2.1 = 0 then forceAll (P.drop (j + 1)) R else if W.2 ≠ 0 then ([], W.2) else forceAll (P.drop (j + 1)) (R.set (numIdx R o.2.1).toNat W.1) := fun h => by
                           rw [hdr h, forceAll, hq, hW]
                          (repeat' with_reducible first | refine And.intro ?_ ?_ | intro _) <;> try first | with_reducible (first | assumption | omega | contradiction) | decide
                          all_goals first
                           | (have h0 : o.2.1 = 0 := by assumption
                              have hst := hst (by omega); rw [if_pos h0] at hst; refine fin_lp ⟨(j + 1, R), (by show j + 1 ≤ P.length; omega), hst.symm.trans hf, hnm⟩ ?_ (by dsimp only; omega); simp only [go_sem]
                              try first | rfl | (and_intros <;> first | trivial | rfl | omega)
                              done)
                           | (have h0 : ¬ o.2.1 = 0 := by assumption
                              have h5 : W.2 = 0 := by assumption
                              have hst := hst (by omega); rw [if_neg h0, if_neg (by simp [h5])] at hst; have hb := (hbo (by omega)).resolve_left h0; have hsp := hsp hb; refine fin_lp ⟨(j + 1, R.set (numIdx R o.2.1).toNat W.1), (by show j + 1 ≤ P.length; omega), hst.symm.trans hf, ?_⟩ ?_ (by dsimp only; omega)
                              · show (R.set _ _).map _ = _; rw [List.map_set, ← hnm]; have hWn : W.1.num = q.num := by rw [← hW]; exact forceV_num (by rw [hW]; exact h5)
                                rw [hWn, ← hq]; refine List.ext_getElem (by simp) fun k h1 h2 => ?_; rw [List.getElem_set]; split
                                · rename_i e; subst e; rw [List.getElem_map, getD_lt (d := ct0) hsp]
                                · rfl
                              · simp only [go_sem]
                                try first | rfl | (and_intros <;> first | trivial | rfl | omega)
                                done)
                           | (have h0 : ¬ o.2.1 = 0 := by assumption
                              have h5 : ¬ W.2 = 0 := by assumption
                              have hst := hst (by omega); rw [if_neg h0, if_pos h5] at hst; have e : applyV c l = ([], W.2) := by rw [hA2, ← hf, hst]
                              first | (rw [e]; done) | (rw [e]; rfl))
                           | (have h0 : ¬ o.2.1 = 0 := by assumption
                              have hb := (hbo (by omega)).resolve_left h0; have hsp := hsp hb
                              omega)
                           | omega
                           | (have e5 : P.drop j = [] := List.drop_of_length_le (by omega)
                              have e : applyV c l = (R, 0) := by rw [hA2, ← hf, e5]; rfl
                              first | (rw [e]; done) | (rw [e]; rfl))))))
end Go.Proofs.YtkjpbhkldioggaaGreat

set_option maxRecDepth 100000
set_option maxHeartbeats 8000000
namespace Go.Proofs.YtkjpbhkldioggaaGreat
open Go.Ev
attribute [local go_sem] List.set_cons_succ List.set_cons_zero List.getD_cons_succ List.getD_cons_zero List.set_nil
end Go.Proofs.YtkjpbhkldioggaaGreat

set_option maxRecDepth 100000
set_option maxHeartbeats 8000000
namespace Go.Proofs.YtkjpbhkldioggaaGreat
open Go.Ev
attribute [local go_sem] List.set_cons_succ List.set_cons_zero List.getD_cons_succ List.getD_cons_zero List.set_nil
end Go.Proofs.YtkjpbhkldioggaaGreat

set_option maxRecDepth 100000
set_option maxHeartbeats 4000000
namespace Go.Proofs.YtkjpbhkldioggaaGreat
open Go.Ev
theorem ctAt {l : List Cnt} {k i : Nat} {o : Cnt} (hk : k < l.length) : (l.set k o).getD i ct0 = if i = k then o else l.getD i ct0 := by
 rw [gdE, List.getElem?_set, gdE]; by_cases h : i = k
 · subst h; rw [if_pos rfl, if_pos rfl, if_pos hk]; rfl
 · rw [if_neg (fun e => h e.symm), if_neg h]
structure PInv (c : List Cnt) (n : Nat) (S : Nat → Pce → Prop) (w : List Cnt) : Prop where
 len : w.length = c.length
 same : ∀ k, k < c.length → w.getD k ct0 = setPcs (c.getD k ct0) (w.getD k ct0).pcs
 ok : ∀ k, k < c.length → ctErr (w.getD k ct0) = 0
 sz : ∀ k, k < c.length → (w.getD k ct0).pcs.length ≤ n
 mem : ∀ k, k < c.length → ∀ x, x ∈ (w.getD k ct0).pcs ↔ S k x
theorem okOp_pc {o : Opn} (h : okOp o = true) : okPc o.2.2.2.2.2 = true := by
 unfold okOp at h; simp only [Bool.and_eq_true] at h; exact h.2
theorem PInv.upd {c : List Cnt} {n n' : Nat} {S S' : Nat → Pce → Prop} {w : List Cnt} (h : PInv c n S w) {k : Nat} (hk : k < c.length) {l : List Pce} (hok : ctErr (setPcs (w.getD k ct0) l) = 0) (hsz : l.length ≤ n') (hn : n ≤ n') (hS : ∀ j, j < c.length → j ≠ k → ∀ x, S' j x ↔ S j x) (hm : ∀ x, x ∈ l ↔ S' k x) : PInv c n' S' (w.set k (setPcs (w.getD k ct0) l)) := by
 have hw : k < w.length := by rw [h.len]; exact hk
 refine ⟨by rw [List.length_set]; exact h.len, fun j hj => ?_, fun j hj => ?_, fun j hj => ?_, fun j hj x => ?_⟩ <;> rw [ctAt hw] <;> by_cases e : j = k
 · subst e; rw [if_pos rfl, h.same j hj]; rfl
 · rw [if_neg e]; exact h.same j hj
 · rw [if_pos e]; exact hok
 · rw [if_neg e]; exact h.ok j hj
 · rw [if_pos e]; exact hsz
 · rw [if_neg e]; exact Nat.le_trans (h.sz j hj) hn
 · subst e; rw [if_pos rfl]; exact hm x
 · rw [if_neg e]; exact (h.mem j hj x).trans (hS j hj e x).symm
theorem PInv.imp {c : List Cnt} {n n' : Nat} {S S' : Nat → Pce → Prop} {w : List Cnt} (h : PInv c n S w) (hn : n ≤ n') (hS : ∀ j, j < c.length → ∀ x, S' j x ↔ S j x) : PInv c n' S' w :=
 ⟨h.len, h.same, h.ok, fun k hk => Nat.le_trans (h.sz k hk) hn, fun k hk x => (h.mem k hk x).trans (hS k hk x).symm⟩
theorem hasP_iff {l : List Pce} {p : Plt} : hasP l p = true ↔ ∃ x ∈ l, x.1 = p := by
 unfold hasP; rw [List.any_eq_true]; exact ⟨fun ⟨x, h, e⟩ => ⟨x, h, of_decide_eq_true e⟩, fun ⟨x, h, e⟩ => ⟨x, h, decide_eq_true e⟩⟩
theorem insP_mem {l : List Pce} {x y : Pce} : y ∈ insP l x ↔ y = x ∨ y ∈ l := by
 unfold insP
 conv => rhs; rw [← List.take_append_drop (posP l x.1) l]
 rw [List.mem_append, List.mem_append, List.mem_cons]; constructor
 · rintro (h | h | h)
   · exact .inr (.inl h)
   · exact .inl h
   · exact .inr (.inr h)
 · rintro (h | h | h)
   · exact .inr (.inl h)
   · exact .inl h
   · exact .inr (.inr h)
theorem insP_len (l : List Pce) (x : Pce) : (insP l x).length = l.length + 1 := by
 unfold insP; have := posP_le l x.1; rw [List.length_append, List.length_take, List.length_cons, List.length_drop]; omega
theorem insP_srt {l : List Pce} {x : Pce} (hs : PcSrt l) (h : hasP l x.1 = false) : PcSrt (insP l x) := by
 have hle := posP_le l x.1; have hap := (pw_getD pc0).1 hs; have hlt : ∀ k, posP l x.1 ≤ k → k < l.length → pltC x.1 (l.getD k pc0).1 < 0 := fun k h1 h2 => by
  have hd := posP_drop l x.1 (by omega); have hne : ¬ (l.getD (posP l x.1) pc0).1 = x.1 := fun e => by
   rw [hasP_pos hs, decide_eq_true (by omega : posP l x.1 < l.length), decide_eq_true e] at h; cases h
  have h3 : pltC x.1 (l.getD (posP l x.1) pc0).1 < 0 := by
   have h0 : ¬ pltC (l.getD (posP l x.1) pc0).1 x.1 = 0 := fun e => hne ((pltC_cmp.eq _ _).1 e); exact (pltC_cmp.anti _ _).2 (by omega)
  by_cases e : posP l x.1 = k
  · rw [← e]; exact h3
  · exact pltC_cmp.trans _ _ _ h3 (hap (posP l x.1) k (by omega) h2)
 unfold insP PcSrt; refine List.pairwise_append.2 ⟨hs.sublist (List.take_sublist _ _), List.pairwise_cons.2 ⟨fun y hy => ?_, hs.sublist (List.drop_sublist _ _)⟩, fun a ha b hb => ?_⟩
 · obtain ⟨k, hk, rfl⟩ := getD_pc hy; rw [List.length_drop] at hk; rw [gdE, List.getElem?_drop, ← gdE]; exact hlt _ (by omega) (by omega)
 · obtain ⟨k, hk, rfl⟩ := getD_pc ha; rw [List.length_take] at hk; rw [gdE, List.getElem?_take_of_lt (by omega), ← gdE]
   rcases List.mem_cons.1 hb with rfl | hb
   · exact posP_take l b.1 k (by omega)
   · obtain ⟨j, hj, rfl⟩ := getD_pc hb; rw [List.length_drop] at hj; rw [gdE (l := List.drop _ _), List.getElem?_drop, ← gdE]; exact hap k _ (by omega) (by omega)
theorem ins_ok {c : Cnt} (h : ctErr c = 0) {x : Pce} (hx : okPc x = true) (hh : hasP c.pcs x.1 = false) (hl : c.pcs.length < 60) : ctErr (setPcs c (insP c.pcs x)) = 0 := by
 obtain ⟨h1, h2, h3⟩ := ctErr_iff.1 h; refine ctErr_iff.2 ⟨h1, (by show (insP c.pcs x).length ≤ 60; rw [insP_len]; omega), fun y hy => ?_, insP_srt h3.srt hh⟩
 rcases insP_mem.1 hy with rfl | hy
 · exact hx
 · exact h3.ok y hy
theorem forceV_ok {c : Cnt} (h : ctErr c = 0) {x : Pce} (hx : okPc x = true) (hh : hasP c.pcs x.1 = false) (hl : c.pcs.length < 60) : forceV c x = (setPcs c (insP c.pcs x), 0) := by
 unfold forceV; rw [if_neg (by simp [h]), if_neg (by simp [hx]), if_neg (by simp [hh]), if_neg (by omega)]
theorem PInv.ins {c : List Cnt} {n : Nat} {S : Nat → Pce → Prop} {w : List Cnt} (h : PInv c n S w) (hn : n < 60) {k : Nat} (hk : k < c.length) {x : Pce} (hx : okPc x = true) (hh : ∀ y, S k y → y.1 ≠ x.1) {S' : Nat → Pce → Prop} (hS : ∀ j, j < c.length → j ≠ k → ∀ x, S' j x ↔ S j x) (hm : ∀ y, S' k y ↔ y = x ∨ S k y) :
 (forceV (w.getD k ct0) x).2 = 0 ∧ PInv c (n + 1) S' (w.set k (forceV (w.getD k ct0) x).1) := by
 have hb : hasP (w.getD k ct0).pcs x.1 = false := by
  cases e : hasP (w.getD k ct0).pcs x.1
  · rfl
  · obtain ⟨y, hy, e⟩ := hasP_iff.1 e; exact absurd e (hh y ((h.mem k hk y).1 hy))
 have hl := h.sz k hk; rw [forceV_ok (h.ok k hk) hx hb (by omega)]; refine ⟨rfl, h.upd hk (ins_ok (h.ok k hk) hx hb (by omega)) (by rw [insP_len]; omega) (by omega) hS fun y => ?_⟩; rw [insP_mem, h.mem k hk, hm]
def LastL (m : List Opn) (k : Nat) (x : Pce) : Prop := ∃ o, (aboutP m x.1).getLast? = some o ∧ o.kind = 1 ∧ o.box = (k : Int) + 1 ∧ o.2.2.2.2.2 = x
theorem lastL_nil (k : Nat) (x : Pce) : ¬ LastL [] k x := fun ⟨o, h, _⟩ => by cases h
theorem lastL_places {l : List Opn} (hv : valV l = 0) (k : Nat) (x : Pce) : LastL l k x ↔ ∃ z ∈ placesV l, z.2.1 = (k : Int) + 1 ∧ z.1 = x := by
 have hlast : ∀ p, aboutP l p ≠ [] → (aboutP l p).getLast? = some ((aboutP l p).getD ((aboutP l p).length - 1) o0) := fun p hp => by
  have hl : 0 < (aboutP l p).length := List.length_pos_iff.2 hp; rw [List.getLast?_eq_getElem?, gdE, List.getElem?_eq_getElem (by omega)]; rfl
 unfold placesV; rw [if_neg (by simp [hv])]; constructor
 · rintro ⟨o, h1, h2, h3, h4⟩; have hne : aboutP l x.1 ≠ [] := fun e => by rw [e] at h1; cases h1
   have hm : x.1 ∈ sortBy pltC (abK l) := (sortBy_perm _ _).mem_iff.2 ((abK_mem x.1 l).2 (by
    obtain ⟨o, ho⟩ := List.exists_mem_of_ne_nil _ hne; exact ⟨o, (List.mem_filter.1 ho).1, of_decide_eq_true (List.mem_filter.1 ho).2⟩))
   refine ⟨_, List.mem_map.2 ⟨x.1, hm, rfl⟩, ?_, ?_⟩
   all_goals
    rw [hlast _ hne] at h1; have h1 := Option.some.inj h1; unfold placeV; dsimp only; rw [h1]
   · rw [if_pos h2]; exact h3
   · exact h4
 · rintro ⟨z, hz, h2, rfl⟩; obtain ⟨p, hp, rfl⟩ := List.mem_map.1 hz; have hne := about_ne hp; have hl : 0 < (aboutP l p).length := List.length_pos_iff.2 hne; have hm : (aboutP l p).getD ((aboutP l p).length - 1) o0 ∈ aboutP l p := getD_mem (by omega); have hp1 : (placeV (aboutP l p)).1.1 = p := of_decide_eq_true (List.mem_filter.1 hm).2; refine ⟨_, by rw [hp1]; exact hlast p hne, ?_⟩; unfold placeV at h2; dsimp only at h2; split at h2
   · rename_i q; exact ⟨q, h2, rfl⟩
   · omega
def NumC (c : List Cnt) : Prop := ∀ k, k < c.length → (c.getD k ct0).num = (k : Int) + 1
theorem numIdx_at : ∀ {c : List Cnt}, NumC c → ∀ {b : Int}, 1 ≤ b → b ≤ c.length → numIdx c b = b - 1 := by
 intro c hc b h1 h2; unfold numIdx idxV; have : c.findIdx? (fun c => decide (c.num = b)) = some (b - 1).toNat := by
  rw [List.findIdx?_eq_some_iff_getElem]; have e : ∀ {k : Nat} (h : k < c.length), c[k] = c.getD k ct0 := fun h => by simp [h]
  refine ⟨by omega, ?_, fun j hj => ?_⟩
  · rw [e, hc _ (by omega)]; exact decide_eq_true (by omega)
  · rw [e (by omega), hc _ (by omega)]; simp; omega
 rw [this]; show (((b - 1).toNat : Nat) : Int) = _; omega
theorem forceAll_ok {c : List Cnt} (hc : NumC c) : ∀ (P : List Plc) (n : Nat) (S : Nat → Pce → Prop) (w : List Cnt), PInv c n S w → n + P.length ≤ 60 → (∀ z ∈ P, 0 ≤ z.2.1 ∧ z.2.1 ≤ c.length ∧ okPc z.1 = true) → P.Pairwise (fun y z => y.1.1 ≠ z.1.1) → (∀ z ∈ P, ∀ k, k < c.length → ∀ y, S k y → y.1 ≠ z.1.1) →
 (forceAll P w).2 = 0 ∧ PInv c (n + P.length) (fun k x => S k x ∨ ∃ z ∈ P, z.2.1 = (k : Int) + 1 ∧ z.1 = x) (forceAll P w).1
 | [], n, S, w, h, _, _, _, _ => ⟨rfl, h.imp (by simp) fun j hj x => by simp⟩
 | z :: P, n, S, w, h, hn, hP, hd, hS => by
   have hz := hP z (List.mem_cons_self ..); have hP' := fun y hy => hP y (List.mem_cons_of_mem z hy); rw [List.length_cons] at hn; obtain ⟨hd1, hd2⟩ := List.pairwise_cons.1 hd; by_cases h0 : z.2.1 = 0
   · obtain ⟨a, b⟩ := forceAll_ok hc P n S w h (by omega) hP' hd2 fun y hy => hS y (List.mem_cons_of_mem z hy); have e : forceAll (z :: P) w = forceAll P w := by rw [forceAll, if_pos h0]
     rw [e]; refine ⟨a, b.imp (by rw [List.length_cons]; omega) fun j hj x => or_congr Iff.rfl ?_⟩; constructor
     · rintro ⟨y, hy, q⟩
       rcases List.mem_cons.1 hy with rfl | hy
       · omega
       · exact ⟨y, hy, q⟩
     · rintro ⟨y, hy, q⟩; exact ⟨y, List.mem_cons_of_mem _ hy, q⟩
   · have hk : (z.2.1 - 1).toNat < c.length := by omega
     have hnw : NumC w := fun k hk => by
      rw [h.len] at hk; rw [h.same k hk]; exact hc k hk
     have hi : (numIdx w z.2.1).toNat = (z.2.1 - 1).toNat := by rw [numIdx_at hnw (by omega) (by rw [h.len]; omega)]
     obtain ⟨a, b⟩ := h.ins (by omega) hk (x := z.1) hz.2.2 (hS z (List.mem_cons_self ..) _ hk) (S' := fun k y => S k y ∨ z.2.1 = (k : Int) + 1 ∧ z.1 = y)
      (fun j hj e x => by constructor
                          · rintro (q | q)
                            · exact q
                            · omega
                          · exact .inl)
      (fun y => by constructor
                   · rintro (q | q)
                     · exact .inr q
                     · exact .inl q.2.symm
                   · rintro (rfl | q)
                     · exact .inr ⟨by omega, rfl⟩
                     · exact .inl q)
     obtain ⟨a2, b2⟩ := forceAll_ok hc P (n + 1) _ _ b (by omega) hP' hd2 fun y hy k hk u hu => by
      rcases hu with hu | hu
      · exact hS y (List.mem_cons_of_mem z hy) k hk u hu
      · rw [← hu.2]; exact hd1 y hy
     have e : forceAll (z :: P) w = forceAll P (w.set (z.2.1 - 1).toNat (forceV (w.getD (z.2.1 - 1).toNat ct0) z.1).1) := by
      rw [forceAll, if_neg h0, hi, if_neg (fun q => q a)]
     rw [e]; refine ⟨a2, b2.imp (by rw [List.length_cons]; omega) fun j hj x => ?_⟩; constructor
     · rintro (q | ⟨y, hy, q⟩)
       · exact .inl (.inl q)
       · rcases List.mem_cons.1 hy with rfl | hy
         · exact .inl (.inr q)
         · exact .inr ⟨y, hy, q⟩
     · rintro ((q | q) | ⟨y, hy, q⟩)
       · exact .inl q
       · exact .inr ⟨z, List.mem_cons_self .., q⟩
       · exact .inr ⟨y, List.mem_cons_of_mem _ hy, q⟩
end Go.Proofs.YtkjpbhkldioggaaGreat
