/- merge.Apply's parts. -/
import Derived.Test.YthiddcobegnokaaGreatMzKA
import Derived.Test.YthiddcobegnokaaGreatMzK4ToKeys
import Derived.Test.YthiddcobegnokaaGreatEvBox
set_option linter.unusedSimpArgs false
set_option linter.unusedVariables false
set_option maxRecDepth 100000
set_option maxHeartbeats 8000000
namespace Go.Proofs.YthiddcobegnokaaGreat
open Go.Ev

/-- Two contracts of one function: one if the first argument is a row of the call's own, one if not. -/
def isRowA : List AV → Bool
 | .one (.row _) :: _ => true
 | _ => false
def orCtr (A B : Ctr) : Ctr := fun avs m fr => if isRowA avs = true then A avs m fr else B avs m fr
theorem orCtr_ok {P : Program} {f : FuncId} {A B : Ctr} (hA : CtrOk P f A) (hB : CtrOk P f B) : CtrOk P f (orCtr A B) := by
 intro D hD cx hcx σ N m w fr avs vs h1 h2 h3 h4
 unfold orCtr at h4 ⊢
 by_cases h : isRowA avs = true
 · simp only [if_pos h] at h4 ⊢; exact hA D hD cx hcx σ N m w fr avs vs h1 h2 h3 h4
 · simp only [if_neg h] at h4 ⊢; exact hB D hD cx hcx σ N m w fr avs vs h1 h2 h3 h4
attribute [go_sem] isRowA orCtr
def setX (l : List Plt) : List (Plt × Unit) := l.foldl (fun m x => mset (kt := yPL) m x ()) []
theorem setX_push (l : List Plt) (x : Plt) : setX (l ++ [x]) = mset (kt := yPL) (setX l) x () := by
 unfold setX; rw [List.foldl_append]; rfl
theorem setX_in (x : Plt) : ∀ (l : List Plt), (mget (kt := yPL) (setX l) x).isSome = true ↔ x ∈ l := by
 have key : ∀ (l : List Plt) (m : List (Plt × Unit)), (mget (kt := yPL) (l.foldl (fun m x => mset (kt := yPL) m x ()) m) x).isSome = true ↔ (x ∈ l ∨ (mget (kt := yPL) m x).isSome = true) := by
  intro l
  induction l with
  | nil => intro m; simp
  | cons y l ih =>
    intro m
    rw [List.foldl_cons, ih, mget_mset (kt := yPL) (β := Unit) keyEq_plt]
    by_cases h : keyEq yPL x y = true
    · rw [if_pos h]; simp [(keyEq_plt x y).1 h]
    · rw [if_neg h]
      have : x ≠ y := fun e => h ((keyEq_plt x y).2 e)
      simp [this]
 intro l
 rw [setX, key]
 simp [mget]
def con69 : Con := { ps := [.d true yCT, .p 3 (.int .i64)], rs := [.d false .bool], pre := fun _ => True, out := fun (x : Cnt × Int × Unit) => (decide (x.1.num = x.2.1), ()), nw := id }
theorem c69 : CtrOk Tryz.prog 69 con69.ctr :=
 con_sound (G := ⟨[], [], [], []⟩) tab_ok EnvOk.nil rfl Tryz.func69 rfl con69 15 (by kernel_rfl) (by decide) (by decide) rfl (by decide) rfl (by
  rintro ⟨⟨(n : Int), ⟨a1, (a2 : Int), a3, (a4 : Int)⟩, (c : Int), (lm : Int), (t : Int), (p : Int), (r : Int), (l : List Pce)⟩, (k : Int), _⟩ hpre hwf X hT hG hk hK
  (simp -implicitDefEqProofs only [go_sem, Bool.not_eq_true', Bool.not_eq_false', Bool.or_eq_true, Bool.or_eq_false_iff, Bool.and_eq_true, Bool.and_eq_false_iff, decide_eq_true_eq, decide_eq_false_iff_not, Classical.not_not, not_or, maxLen, con69, hT, hG, hk, hK, Tryz.results69] at hwf ⊢); (try simp (disch := decide +kernel) only [drawn, true_and, and_true]))
def conIdxD : Con := { ps := [.d false (.sl yCT), .cl 69 [.p 3 (.int .i64)]], rs := [.d false (.int .i64)], pre := fun _ => True, out := fun (x : List Cnt × (Int × Unit) × Unit) => (numIdx x.1 x.2.1.1, ()), nw := id }
theorem cIdxD : CtrOk Tryz.prog 68 conIdxD.ctr :=
 con_sound (G := ⟨[(69, con69.ctr)], [], [], []⟩) tab_ok (EnvOk.cons c69 has69 EnvOk.nil) rfl Tryz.func68 rfl conIdxD 66483 (by kernel_rfl) (by decide) (by decide) rfl (by decide) rfl (by
  rintro ⟨(l : List Cnt), ⟨(n : Int), _⟩, _⟩ hpre hwf X hT hG hk hK
  skip
  (simp -implicitDefEqProofs only [go_sem, Bool.not_eq_true', Bool.not_eq_false', Bool.or_eq_true, Bool.or_eq_false_iff, Bool.and_eq_true, Bool.and_eq_false_iff, decide_eq_true_eq, decide_eq_false_iff_not, Classical.not_not, not_or, maxLen, conIdxD, con69, hT, hG, hk, hK, Tryz.results68] at hwf ⊢); (try simp (disch := decide +kernel) only [drawn, true_and, and_true])
  clear hwf
  refine fun _ => evk_loop ⟨{ i : Nat // i ≤ l.length ∧ ∀ k, k < i → (fun c : Cnt => decide (c.num = n)) (l.getD k ct0) = false }, 1000, fun q => [(0, .one (.sl yCT l false)), (1, .one (.fn 69 [.loc 12 0])), (4, .one (.int .i64 0)), (7, .one (.int .i64 l.length)), (8, .one (.int .i64 q.1))], fun q => [(12, .cells 3 [.int .i64 n])], fun q => l.length - q.1⟩ ⟨0, by omega, fun k hk => by omega⟩ ?_ ?_
  · simp only [go_sem]
    try (first | rfl | exact ⟨rfl, rfl⟩ | (and_intros <;> first | trivial | rfl | omega))
  · rintro ⟨i, (hi : i ≤ l.length), hz⟩
    (simp -implicitDefEqProofs only [go_sem, Bool.not_eq_true', Bool.not_eq_false', Bool.or_eq_true, Bool.or_eq_false_iff, Bool.and_eq_true, Bool.and_eq_false_iff, decide_eq_true_eq, decide_eq_false_iff_not, Classical.not_not, not_or, maxLen, conIdxD, con69, hT, hG, hk, hK, Tryz.results68]); (try simp (disch := decide +kernel) only [drawn, true_and, and_true])
    obtain ⟨o, ho⟩ : ∃ o, l.getD i ct0 = o := ⟨_, rfl⟩
    have eo : l.getD (i : Int).toNat (0, (ByteArray.empty, 0, ByteArray.empty, 0), 0, 0, 0, 0, 0, []) = o := ho
    try simp only [eo]
    (repeat' (with_reducible (first | refine And.intro ?_ ?_ | intro _))) <;> (try (first | with_reducible (first | done | assumption | omega | contradiction) | decide))
    all_goals first
     | (have h : o.1 = n := by assumption
        exact (idxV_at (d := ct0) hz (by omega) (by show decide ((l.getD i ct0).num = n) = true; rw [ho]; exact decide_eq_true h)).symm)
     | (have h : ¬ o.1 = n := by assumption
        refine fin_lp ⟨i + 1, by omega, lt_succ hz (by show decide ((l.getD i ct0).num = n) = false; rw [ho]; exact decide_eq_false h)⟩ (by simp only [go_sem]; first | rfl | ((repeat' apply And.intro) <;> first | rfl | assumption | omega)) (by dsimp only; omega)
        done)
     | exact (idxV_none (d := ct0) fun k hk => hz k (by omega)).symm
     | fail)
def conIdxO : Con := { ps := [.o 75 yCT, .cl 69 [.p 3 (.int .i64)]], rs := [.d false (.int .i64)], pre := fun (x : List Cnt × (Int × Unit) × Unit) => x.1.length ≤ 1000000, out := fun (x : List Cnt × (Int × Unit) × Unit) => (numIdx x.1 x.2.1.1, ()), nw := id }
theorem cIdxO : CtrOk Tryz.prog 68 conIdxO.ctr :=
 con_sound (G := ⟨[(69, con69.ctr)], [], [], []⟩) tab_ok (EnvOk.cons c69 has69 EnvOk.nil) rfl Tryz.func68 rfl conIdxO 66483 (by kernel_rfl) (by decide) (by decide) rfl (by decide) rfl (by
  rintro ⟨(l : List Cnt), ⟨(n : Int), _⟩, _⟩ hpre hwf X hT hG hk hK
  have hlp : l.length ≤ 1000000 := hpre
  (simp -implicitDefEqProofs only [go_sem, Bool.not_eq_true', Bool.not_eq_false', Bool.or_eq_true, Bool.or_eq_false_iff, Bool.and_eq_true, Bool.and_eq_false_iff, decide_eq_true_eq, decide_eq_false_iff_not, Classical.not_not, not_or, maxLen, conIdxO, con69, hT, hG, hk, hK, Tryz.results68] at hwf ⊢); (try simp (disch := decide +kernel) only [drawn, true_and, and_true])
  clear hwf
  refine fun _ => evk_loop ⟨{ i : Nat // i ≤ l.length ∧ ∀ k, k < i → (fun c : Cnt => decide (c.num = n)) (l.getD k ct0) = false }, 1000, fun q => [(0, .one (.row 0)), (1, .one (.fn 69 [.loc 12 0])), (4, .one (.int .i64 0)), (7, .one (.int .i64 l.length)), (8, .one (.int .i64 q.1))], fun q => [(0, .row 75 yCT l), (12, .cells 3 [.int .i64 n])], fun q => l.length - q.1⟩ ⟨0, by omega, fun k hk => by omega⟩ ?_ ?_
  · simp only [go_sem]
    try (first | rfl | exact ⟨rfl, rfl⟩ | (and_intros <;> first | trivial | rfl | omega))
  · rintro ⟨i, (hi : i ≤ l.length), hz⟩
    (simp -implicitDefEqProofs only [go_sem, Bool.not_eq_true', Bool.not_eq_false', Bool.or_eq_true, Bool.or_eq_false_iff, Bool.and_eq_true, Bool.and_eq_false_iff, decide_eq_true_eq, decide_eq_false_iff_not, Classical.not_not, not_or, maxLen, conIdxO, con69, hT, hG, hk, hK, Tryz.results68]); (try simp (disch := decide +kernel) only [drawn, true_and, and_true])
    obtain ⟨o, ho⟩ : ∃ o, l.getD i ct0 = o := ⟨_, rfl⟩
    have eo : l.getD (i : Int).toNat (0, (ByteArray.empty, 0, ByteArray.empty, 0), 0, 0, 0, 0, 0, []) = o := ho
    try simp only [eo]
    (repeat' (with_reducible (first | refine And.intro ?_ ?_ | intro _))) <;> (try (first | with_reducible (first | done | assumption | omega | contradiction) | decide))
    all_goals first
     | (have h : o.1 = n := by assumption
        exact (idxV_at (d := ct0) hz (by omega) (by show decide ((l.getD i ct0).num = n) = true; rw [ho]; exact decide_eq_true h)).symm)
     | (have h : ¬ o.1 = n := by assumption
        refine fin_lp ⟨i + 1, by omega, lt_succ hz (by show decide ((l.getD i ct0).num = n) = false; rw [ho]; exact decide_eq_false h)⟩ (by simp only [go_sem]; first | rfl | ((repeat' apply And.intro) <;> first | rfl | assumption | omega)) (by dsimp only; omega)
        done)
     | exact (idxV_none (d := ct0) fun k hk => hz k (by omega)).symm
     | fail)
def conNumD : Con := { ps := [.d false (.sl yCT), .d false (.int .i64)], rs := [.d false (.int .i64)], pre := fun _ => True, out := fun (x : List Cnt × Int × Unit) => (numIdx x.1 x.2.1, ()), nw := id }
theorem cNumD : CtrOk Tryz.prog 33 conNumD.ctr :=
 con_sound (G := ⟨[(68, conIdxD.ctr)], [], [], []⟩) tab_ok (EnvOk.cons cIdxD has68 EnvOk.nil) rfl Tryz.func33 rfl conNumD 27 (by kernel_rfl) (by decide) (by decide) rfl (by decide) rfl (by
  rintro ⟨(l : List Cnt), (n : Int), _⟩ hpre hwf X hT hG hk hK
  skip
  (simp -implicitDefEqProofs only [go_sem, Bool.not_eq_true', Bool.not_eq_false', Bool.or_eq_true, Bool.or_eq_false_iff, Bool.and_eq_true, Bool.and_eq_false_iff, decide_eq_true_eq, decide_eq_false_iff_not, Classical.not_not, not_or, maxLen, conNumD, conIdxD, hT, hG, hk, hK, Tryz.results33] at hwf ⊢); (try simp (disch := decide +kernel) only [drawn, true_and, and_true])
  skip)
def conNumO : Con := { ps := [.o 75 yCT, .d false (.int .i64)], rs := [.d false (.int .i64)], pre := fun (x : List Cnt × Int × Unit) => x.1.length ≤ 1000000, out := fun (x : List Cnt × Int × Unit) => (numIdx x.1 x.2.1, ()), nw := id }
theorem cNumO : CtrOk Tryz.prog 33 conNumO.ctr :=
 con_sound (G := ⟨[(68, conIdxO.ctr)], [], [], []⟩) tab_ok (EnvOk.cons cIdxO has68 EnvOk.nil) rfl Tryz.func33 rfl conNumO 27 (by kernel_rfl) (by decide) (by decide) rfl (by decide) rfl (by
  rintro ⟨(l : List Cnt), (n : Int), _⟩ hpre hwf X hT hG hk hK
  have hlp : l.length ≤ 1000000 := hpre
  (simp -implicitDefEqProofs only [go_sem, Bool.not_eq_true', Bool.not_eq_false', Bool.or_eq_true, Bool.or_eq_false_iff, Bool.and_eq_true, Bool.and_eq_false_iff, decide_eq_true_eq, decide_eq_false_iff_not, Classical.not_not, not_or, maxLen, conNumO, conIdxO, hT, hG, hk, hK, Tryz.results33] at hwf ⊢); (try simp (disch := decide +kernel) only [drawn, true_and, and_true])
  exact hlp)
def conNum : Raw := ⟨orCtr conNumO.ctr conNumD.ctr⟩
theorem cNum : CtrOk Tryz.prog 33 conNum.ctr := orCtr_ok cNumO cNumD
def con38 : BCon := { ps := [.d true yPC, .bx], rs := [.d false .bool], e := 86, k := .map yPL .unit true true, pre := fun _ _ => True, out := fun (x : Pce × Unit × Unit) z => ((mget (kt := yPL) z x.1.1).isSome, ()), nw := fun x _ => x, nx := fun _ z => z }
theorem c38 : CtrOk Tryz.prog 38 con38.ctr :=
 box_sound (G := ⟨[], [], [], []⟩) tab_ok EnvOk.nil rfl Tryz.func38 rfl con38 47 (by kernel_rfl) (by decide) (by decide) rfl (by decide) rfl (by
  rintro ⟨⟨⟨(a : Int), (b : Int), (c : Int)⟩, (d : Int), (e : Int)⟩, _⟩ (z : List (Plt × Unit)) hpre hwf X hT hG hk hK
  (simp -implicitDefEqProofs only [go_sem, Bool.not_eq_true', Bool.not_eq_false', Bool.or_eq_true, Bool.or_eq_false_iff, Bool.and_eq_true, Bool.and_eq_false_iff, decide_eq_true_eq, decide_eq_false_iff_not, Classical.not_not, not_or, maxLen, con38, hT, hG, hk, hK, Tryz.results38] at hwf ⊢); (try simp (disch := decide +kernel) only [drawn, true_and, and_true]))
theorem idxV_m1 {α : Type} {p : α → Bool} {l : List α} (h : idxV p l < 0) : idxV p l = -1 := by
 unfold idxV at h ⊢
 split at h
 · omega
 · rfl
def fz (z : List (Plt × Unit)) (x : Pce) : Bool := (mget (kt := yPL) z x.1).isSome
def con72 : BCon := { ps := [.o 54 yPC, .cl 38 [.bx]], rs := [.d false (.int .i64)], e := 86, k := .map yPL .unit true true, pre := fun _ _ => True, out := fun (x : List Pce × (Unit × Unit) × Unit) z => (idxV (fz z) x.1, ()), nw := fun x _ => x, nx := fun _ z => z }
theorem c72 : CtrOk Tryz.prog 72 con72.ctr :=
 box_sound (G := ⟨[(38, con38.ctr)], [], [], []⟩) tab_ok (EnvOk.cons c38 has38 EnvOk.nil) rfl Tryz.func72 rfl con72 66483 (by kernel_rfl) (by decide) (by decide) rfl (by decide) rfl (by
  rintro ⟨(l : List Pce), _⟩ (z : List (Plt × Unit)) hpre hwf X hT hG hk hK
  (simp -implicitDefEqProofs only [go_sem, Bool.not_eq_true', Bool.not_eq_false', Bool.or_eq_true, Bool.or_eq_false_iff, Bool.and_eq_true, Bool.and_eq_false_iff, decide_eq_true_eq, decide_eq_false_iff_not, Classical.not_not, not_or, maxLen, con72, con38, hT, hG, hk, hK, Tryz.results72] at hwf ⊢); (try simp (disch := decide +kernel) only [drawn, true_and, and_true])
  clear hwf
  refine fun _ => evk_loop ⟨{ i : Nat // i ≤ l.length ∧ ∀ k, k < i → fz z (l.getD k pc0) = false }, 1000, fun q => [(0, .one (.row 0)), (1, .one (.fn 38 [.loc 31 0])), (4, .one (.int .i64 0)), (7, .one (.int .i64 l.length)), (8, .one (.int .i64 q.1))], fun q => [(0, .row 54 yPC l), (31, .cells 86 [.map 40]), (40, .mapb yPL .unit true true z)], fun q => l.length - q.1⟩ ⟨0, by omega, fun k hk => by omega⟩ ?_ ?_
  · simp only [go_sem]
    try (first | rfl | exact ⟨rfl, rfl⟩ | (and_intros <;> first | trivial | rfl | omega))
  · rintro ⟨i, (hi : i ≤ l.length), hz⟩
    (simp -implicitDefEqProofs only [go_sem, Bool.not_eq_true', Bool.not_eq_false', Bool.or_eq_true, Bool.or_eq_false_iff, Bool.and_eq_true, Bool.and_eq_false_iff, decide_eq_true_eq, decide_eq_false_iff_not, Classical.not_not, not_or, maxLen, con72, con38, hT, hG, hk, hK, Tryz.results72]); (try simp (disch := decide +kernel) only [drawn, true_and, and_true])
    obtain ⟨o, ho⟩ : ∃ o, l.getD i pc0 = o := ⟨_, rfl⟩
    have eo : l.getD (i : Int).toNat ((0, 0, 0), 0, 0) = o := ho
    try simp only [eo]
    have eO : (o.1.1, o.1.2.1, o.1.2.2) = o.1 := rfl
    try simp only [eO]
    (repeat' (with_reducible (first | refine And.intro ?_ ?_ | intro _))) <;> (try (first | with_reducible (first | done | assumption | omega | contradiction) | decide))
    all_goals first
     | (have h : (mget (kt := yPL) z o.1).isSome = true := by assumption
        exact (idxV_at (d := pc0) hz (by omega) (by rw [ho]; exact h)).symm)
     | (have h : (mget (kt := yPL) z o.1).isSome = false := by assumption
        refine fin_lp ⟨i + 1, by omega, lt_succ hz (by rw [ho]; exact h)⟩ (by simp only [go_sem]; first | rfl | ((repeat' apply And.intro) <;> first | rfl | assumption | omega)) (by dsimp only; omega)
        done)
     | exact (idxV_none (d := pc0) fun k hk => hz k (by omega)).symm
     | fail)
def con36 : BCon := { ps := [.oc 54 yPC, .cl 38 [.bx]], rs := [.o 54 yPC], e := 86, k := .map yPL .unit true true, pre := fun (x : List Pce × (Unit × Unit) × Unit) _ => x.1.length ≤ 1048576, out := fun (x : List Pce × (Unit × Unit) × Unit) z => (x.1.filter (fun x => !fz z x), ()), nw := fun x _ => x, nx := fun _ z => z }
theorem c36 : CtrOk Tryz.prog 36 con36.ctr :=
 box_sound (G := ⟨[(72, con72.ctr), (38, con38.ctr)], [], [(13, 2), (38, 1), (41, 2)], []⟩) tab_ok (EnvOk.cons c72 has72 (EnvOk.cons c38 has38 EnvOk.nil)) rfl Tryz.func36 rfl con36 537399539 (by kernel_rfl) (by decide) (by decide) rfl (by decide) rfl (by
  rintro ⟨(l : List Pce), _⟩ (z : List (Plt × Unit)) hpre hwf X hT hG hk hK
  have hl : l.length ≤ 1048576 := hpre
  (simp -implicitDefEqProofs only [go_sem, Bool.not_eq_true', Bool.not_eq_false', Bool.or_eq_true, Bool.or_eq_false_iff, Bool.and_eq_true, Bool.and_eq_false_iff, decide_eq_true_eq, decide_eq_false_iff_not, Classical.not_not, not_or, maxLen, con36, con72, con38, hT, hG, hk, hK, Tryz.results36] at hwf ⊢); (try simp (disch := decide +kernel) only [drawn, true_and, and_true])
  clear hwf
  obtain ⟨F, hF⟩ : ∃ F : Pce → Bool, F = fun x => !fz z x := ⟨_, rfl⟩
  have hFa : ∀ x, F x = !fz z x := fun x => by rw [hF]
  have hfe : (fun x => !fz z x) = F := hF.symm
  simp only [hfe]
  refine fun _ => ⟨fun h => ?_, fun h => ?_⟩
  · have := idxV_neg (p := fz z) (l := l) (by omega)
    rw [List.filter_eq_self.2 fun x hx => by rw [hFa, this x hx]; rfl]
  · have hn : 0 ≤ idxV (fz z) l := by
     apply Classical.byContradiction
     intro hq
     have := idxV_m1 (p := fz z) (l := l) (by omega)
     exact h this
    obtain ⟨hi, h2, h3⟩ := idxV_spec (d := pc0) hn
    obtain ⟨i, hq⟩ : ∃ i : Nat, idxV (fz z) l = i := ⟨(idxV (fz z) l).toNat, by omega⟩
    rw [hq] at hi h2 h3 ⊢
    have hi : i < l.length := hi
    have h2 : fz z (l.getD i pc0) = true := h2
    have h3 : ∀ k, k < i → fz z (l.getD k pc0) = false := h3
    refine ⟨⟨by omega, by omega⟩, ?_⟩
    have b0 : (l.take i).filter F = l.take i := List.filter_eq_self.2 fun x hx => by
     obtain ⟨k, hk, rfl⟩ := getD_pc hx
     have hki : k < i := by rw [List.length_take] at hk; omega
     rw [hFa, List.getD_eq_getElem?_getD, List.getElem?_take_of_lt hki, ← List.getD_eq_getElem?_getD, h3 k hki]; rfl
    have b1 : l.take i = (l.take (i + 1)).filter F := by
     rw [List.take_succ_eq_append_getElem hi, List.filter_append, b0, ← getD_lt (d := pc0) hi, List.filter_cons_of_neg (by rw [hFa, h2]; simp)]; simp
    refine evk_loop ⟨{ q : Nat × Nat × List Pce // q.1 ≤ q.2.1 ∧ q.2.1 ≤ l.length ∧ q.2.2.length = l.length ∧ q.2.2.take q.1 = (l.take q.2.1).filter F ∧ q.2.2.drop q.2.1 = l.drop q.2.1 }, 1000, fun q => [(0, .one (.row 0)), (1, .one (.fn 38 [.loc 31 0])), (5, .one (.int .i64 q.1.1)), (6, .one (.int .i64 q.1.2.1))], fun q => [(0, .row 54 yPC q.1.2.2), (31, .cells 86 [.map 40]), (40, .mapb yPL .unit true true z)], fun q => l.length - q.1.2.1⟩ ⟨(i, i + 1, l), Nat.le_succ i, hi, rfl, b1, rfl⟩ ?_ ?_
    · simp only [go_sem]
      try (first | rfl | exact ⟨rfl, rfl⟩ | (and_intros <;> first | trivial | rfl | omega))
    · rintro ⟨⟨a, r, R⟩, (c1 : a ≤ r), (c2 : r ≤ l.length), (c3 : R.length = l.length), (c4 : R.take a = (l.take r).filter F), (c5 : R.drop r = l.drop r)⟩
      (simp -implicitDefEqProofs only [go_sem, Bool.not_eq_true', Bool.not_eq_false', Bool.or_eq_true, Bool.or_eq_false_iff, Bool.and_eq_true, Bool.and_eq_false_iff, decide_eq_true_eq, decide_eq_false_iff_not, Classical.not_not, not_or, maxLen, con36, con72, con38, hT, hG, hk, hK, Tryz.results36]); (try simp (disch := decide +kernel) only [drawn, true_and, and_true])
      refine fun _ => ⟨fun hlt => ?_, fun hge => ?_⟩
      · have hr : r < R.length := by omega
        have hr2 : r < l.length := by omega
        obtain ⟨o, ho⟩ : ∃ o, l.getD r pc0 = o := ⟨_, rfl⟩
        have hRr : R.getD r pc0 = o := by
         have := congrArg (fun q => q.getD 0 pc0) c5
         simp only [List.getD_eq_getElem?_getD, List.getElem?_drop, Nat.add_zero] at this
         rw [List.getD_eq_getElem?_getD, this, ← List.getD_eq_getElem?_getD, ho]
        have eo : R.getD (r : Int).toNat ((0, 0, 0), 0, 0) = o := hRr
        have eO : (o.1.1, o.1.2.1, o.1.2.2) = o.1 := rfl
        simp only [eo, eO]
        have hd : R.drop (r + 1) = l.drop (r + 1) := by rw [← List.drop_drop, c5, List.drop_drop]
        have hst : (l.take (r + 1)).filter F = (l.take r).filter F ++ (if F o = true then [o] else []) := by
         rw [List.take_succ_eq_append_getElem hr2, List.filter_append, ← getD_lt (d := pc0) hr2, ho]
         by_cases q : F o = true
         · rw [if_pos q, List.filter_cons_of_pos q]; rfl
         · rw [if_neg q, List.filter_cons_of_neg q]; rfl
        (repeat' (with_reducible (first | refine And.intro ?_ ?_ | intro _))) <;> (try (first | with_reducible (first | done | assumption | omega | contradiction) | decide))
        all_goals first
         | (have h0 : (mget (kt := yPL) z o.1).isSome = false := by assumption
            have h1 : F o = true := by rw [hFa]; unfold fz; rw [h0]; rfl
            have har : a < R.length := by omega
            refine fin_lp ⟨(a + 1, r + 1, R.set a o), by dsimp only; omega, by dsimp only; omega, by dsimp only; rw [List.length_set]; exact c3, ?_, ?_⟩ ?_ (by dsimp only; omega)
            · dsimp only
              rw [hst, if_pos h1, ← c4, List.take_succ_eq_append_getElem (by rw [List.length_set]; omega), List.take_set_of_le (Nat.le_refl _), List.getElem_set_self]
            · dsimp only
              rw [List.drop_set_of_lt (by omega), hd]
            · simp only [go_sem]
              try (first | rfl | exact ⟨rfl, rfl⟩ | (and_intros <;> first | trivial | rfl | omega))
              done)
         | (have h0 : (mget (kt := yPL) z o.1).isSome = true := by assumption
            have h1 : ¬ F o = true := by rw [hFa]; unfold fz; rw [h0]; simp
            refine fin_lp ⟨(a, r + 1, R), by dsimp only; omega, by dsimp only; omega, c3, by dsimp only; rw [hst, if_neg h1, List.append_nil]; exact c4, hd⟩ ?_ (by dsimp only; omega)
            simp only [go_sem]
            try (first | rfl | exact ⟨rfl, rfl⟩ | (and_intros <;> first | trivial | rfl | omega))
            done)
         | fail
      · refine ⟨by omega, ?_⟩
        have hr : r = l.length := by omega
        have e1 : (a : Int).toNat = a := by omega
        have e2 : ((R.length : Int) - (a : Int)).toNat = R.length - a := by omega
        have e3 : (a + (R.length - a) ≤ R.length) = True := by rw [eq_iff_iff, iff_true]; omega
        (simp -implicitDefEqProofs only [go_sem, Bool.not_eq_true', Bool.not_eq_false', Bool.or_eq_true, Bool.or_eq_false_iff, Bool.and_eq_true, Bool.and_eq_false_iff, decide_eq_true_eq, decide_eq_false_iff_not, Classical.not_not, not_or, maxLen, con36, con72, con38, hT, hG, hk, hK, Tryz.results36, e1, e2, e3]); (try simp (disch := decide +kernel) only [drawn, true_and, and_true])
        have e5 : (R.take a).length = a := by rw [List.length_take]; omega
        have e4 : List.take a (List.take a R ++ (List.replicate (R.length - a) ((0, 0, 0), 0, 0) ++ List.drop (a + (R.length - a)) R)) = l.filter F := by
         rw [List.take_append_of_le_length (by omega), List.take_of_length_le (by omega), c4, hr, List.take_of_length_le (Nat.le_refl _)]
        simp only [hfe]
        (repeat' (with_reducible (first | refine And.intro ?_ ?_ | intro _))) <;> (try (first | with_reducible (first | done | assumption | omega | contradiction) | decide))
        all_goals first
         | exact e4
         | (rw [List.length_append, e5]; omega)
         | fail)
end Go.Proofs.YthiddcobegnokaaGreat

/- merge.Apply. -/
set_option linter.unusedSimpArgs false
set_option linter.unusedVariables false
set_option maxRecDepth 100000
set_option maxHeartbeats 8000000
namespace Go.Proofs.YthiddcobegnokaaGreat
open Go.Ev

attribute [local go_sem] List.set_cons_succ List.set_cons_zero List.set_nil
def numsIn (c : List Cnt) (l : List Opn) : Bool := l.all (fun o => decide (0 ≤ numIdx c o.box))
def clrC (ps : List Plt) (o : Cnt) : Cnt := setPcs o (o.pcs.filter (fun x => !decide (x.1 ∈ ps)))
def forceAll : List Plc → List Cnt → List Cnt × Int
 | [], out => (out, 0)
 | x :: P, out => if x.2.1 = 0 then forceAll P out else if (forceV (out.getD (numIdx out x.2.1).toNat ct0) x.1).2 ≠ 0 then ([], (forceV (out.getD (numIdx out x.2.1).toNat ct0) x.1).2) else forceAll P (out.set (numIdx out x.2.1).toNat (forceV (out.getD (numIdx out x.2.1).toNat ct0) x.1).1)
/-- The containers after operations. -/
def applyV (c : List Cnt) (l : List Opn) : List Cnt × Int :=
 if checkV c ≠ 0 then ([], checkV c) else if valV l ≠ 0 then ([], valV l) else if numsIn c l = false then ([], 6) else forceAll (placesV l) (c.map (clrC ((placesV l).map (fun x => x.1.1))))
theorem fz_in (ps : List Plt) (x : Pce) : fz (setX ps) x = decide (x.1 ∈ ps) := by
 rw [Bool.eq_iff_iff, decide_eq_true_eq]; exact setX_in x.1 ps
theorem numIdx_nums {a b : List Cnt} (h : a.map (fun c => c.num) = b.map (fun c => c.num)) (n : Int) : numIdx a n = numIdx b n := by
 have key : ∀ a : List Cnt, numIdx a n = idxV (fun m => decide (m = n)) (a.map (fun c => c.num)) := fun a => by
  unfold numIdx idxV
  rw [List.findIdx?_map]; rfl
 rw [key, key, h]
theorem placesV_box {l : List Opn} {z : Plc} (h : z ∈ placesV l) : z.2.1 = 0 ∨ ∃ o ∈ l, o.box = z.2.1 := by
 unfold placesV at h
 split at h
 · cases h
 · obtain ⟨p, hp, rfl⟩ := List.mem_map.1 h
   have hne := about_ne hp
   unfold placeV
   dsimp only
   split
   · right
     have hl : 0 < (aboutP l p).length := List.length_pos_iff.2 hne
     have hm : (aboutP l p).getD ((aboutP l p).length - 1) o0 ∈ aboutP l p := getD_mem (by omega)
     exact ⟨_, (List.mem_filter.1 hm).1, rfl⟩
   · exact .inl rfl
theorem forceV_num {c : Cnt} {x : Pce} (h : (forceV c x).2 = 0) : (forceV c x).1.num = c.num := by
 unfold forceV at h ⊢
 split at h
 · rename_i q; exact absurd h q
 · rename_i q
   rw [if_neg q]
   split at h
   · cases h
   · rename_i q2
     rw [if_neg q2]
     split at h
     · cases h
     · rename_i q3
       rw [if_neg q3]
       split at h
       · cases h
       · rename_i q4
         rw [if_neg q4]; rfl
def con12 : Con := { ps := [.d false (.sl yCT), .d false (.sl yOP)], rs := [.d false (.sl yCT), .d false (.int .i64)], pre := fun _ => True, out := fun (x : List Cnt × List Opn × Unit) => ((applyV x.1 x.2.1).1, (applyV x.1 x.2.1).2, ()), nw := id }
theorem c12 : CtrOk Tryz.prog 12 con12.ctr :=
 con_sound (G := ⟨[(32, con32.ctr), (27, con27.ctr), (33, conNum.ctr), (34, con34.ctr), (35, con35.ctr), (37, con37.ctr), (36, con36.ctr), (38, con38.ctr), (39, con39.ctr)], [], [], []⟩) tab_ok (EnvOk.cons c32 has32 (EnvOk.cons c27 has27 (EnvOk.cons cNum has33 (EnvOk.cons c34 has34 (EnvOk.cons c35 has35 (EnvOk.cons c37 has37 (EnvOk.cons c36 has36 (EnvOk.cons c38 has38 (EnvOk.cons c39 has39 EnvOk.nil))))))))) rfl Tryz.func12 rfl con12 5070684305653338455940848873203 (by kernel_rfl) (by decide) (by decide) rfl (by decide) rfl (by
  rintro ⟨(c : List Cnt), (l : List Opn), _⟩ hpre hwf X hT hG hk hK
  (simp -implicitDefEqProofs only [go_sem, Bool.not_eq_true', Bool.not_eq_false', Bool.or_eq_true, Bool.or_eq_false_iff, Bool.and_eq_true, Bool.and_eq_false_iff, decide_eq_true_eq, decide_eq_false_iff_not, Classical.not_not, not_or, maxLen, con12, con32, con27, conNum, con34, con35, con37, con36, con38, con39, hT, hG, hk, hK, Tryz.results12, conNumO, conNumD] at hwf ⊢); (try simp (disch := decide +kernel) only [drawn, true_and, and_true])
  clear hwf
  refine fun _ => ⟨fun h => ?_, fun h1 _ => ⟨fun h2 => ?_, fun h2 hll => ?_⟩⟩
  · have e : applyV c l = ([], checkV c) := by unfold applyV; rw [if_pos h]
    rw [e]; exact ⟨rfl, rfl⟩
  · have e : applyV c l = ([], valV l) := by unfold applyV; rw [if_neg (by simp [h1]), if_pos h2]
    rw [e]; exact ⟨rfl, rfl⟩
  · have hok := checkV_iff.1 h1
    have hcl := hok.len
    have hcp : ∀ o ∈ c, o.pcs.length ≤ 60 := fun o ho => (hok.ok o ho).2.1
    have hA : applyV c l = if numsIn c l = false then ([], 6) else forceAll (placesV l) (c.map (clrC ((placesV l).map (fun x => x.1.1)))) := by
     unfold applyV; rw [if_neg (by simp [h1]), if_neg (by simp [h2])]
    refine evk_loop ⟨{ i : Nat // i ≤ l.length ∧ ∀ k, k < i → 0 ≤ numIdx c (l.getD k o0).box }, 1000, fun q => [(0, .one (.sl yCT c false)), (1, .one (.sl yOP l false)), (31, .one (.sl yOP l false)), (32, .one (.int .i64 l.length)), (33, .one (.int .i64 q.1))], fun q => [], fun q => l.length - q.1⟩ ⟨0, Nat.zero_le _, fun k hk => by omega⟩ ?_ ?_
    · simp only [go_sem]
      try (first | rfl | exact ⟨rfl, rfl⟩ | (and_intros <;> first | trivial | rfl | omega))
    · rintro ⟨i, (hi : i ≤ l.length), hz⟩
      have hz : ∀ k, k < i → 0 ≤ numIdx c (l.getD k o0).box := hz
      (simp -implicitDefEqProofs only [go_sem, Bool.not_eq_true', Bool.not_eq_false', Bool.or_eq_true, Bool.or_eq_false_iff, Bool.and_eq_true, Bool.and_eq_false_iff, decide_eq_true_eq, decide_eq_false_iff_not, Classical.not_not, not_or, maxLen, con12, con32, con27, conNum, con34, con35, con37, con36, con38, con39, hT, hG, hk, hK, Tryz.results12, conNumO, conNumD]); (try simp (disch := decide +kernel) only [drawn, true_and, and_true])
      obtain ⟨o, ho⟩ : ∃ o, l.getD i o0 = o := ⟨_, rfl⟩
      have eo : l.getD (i : Int).toNat (0, 0, 0, 0, 0, (0, 0, 0), 0, 0) = o := ho
      try simp only [eo]
      (repeat' (with_reducible (first | refine And.intro ?_ ?_ | intro _))) <;> (try (first | with_reducible (first | done | assumption | omega | contradiction) | decide))
      all_goals first
       | (have hq : numIdx c o.2.2.2.2.1 < 0 := by assumption
          have e : applyV c l = ([], 6) := by
           rw [hA, if_pos]
           unfold numsIn
           rw [List.all_eq_false]
           exact ⟨o, by rw [← ho]; exact getD_mem (by omega), by rw [decide_eq_true_eq]; show ¬ 0 ≤ numIdx c o.2.2.2.2.1; omega⟩
          first | (rw [e]; done) | (rw [e]; rfl))
       | (have hq : ¬ numIdx c o.2.2.2.2.1 < 0 := by assumption
          refine fin_lp ⟨i + 1, (by omega), lt_succ' hz (by rw [ho]; show 0 ≤ numIdx c o.2.2.2.2.1; omega)⟩ ?_ (by dsimp only; omega)
          simp only [go_sem]
          try (first | rfl | exact ⟨rfl, rfl⟩ | (and_intros <;> first | trivial | rfl | omega))
          done)
       | (have hni : ∀ o ∈ l, 0 ≤ numIdx c o.box := fun o ho => by
           obtain ⟨k, hk2, rfl⟩ := mem_getD (d := o0) ho
           exact hz k (by omega)
          have hA2 : applyV c l = forceAll (placesV l) (c.map (clrC ((placesV l).map (fun x => x.1.1)))) := by
           rw [hA, if_neg]
           unfold numsIn
           rw [Bool.not_eq_false, List.all_eq_true]
           exact fun o ho => decide_eq_true (hni o ho)
          have hbx : ∀ z ∈ placesV l, z.2.1 = 0 ∨ 0 ≤ numIdx c z.2.1 := fun z hz => by
           rcases placesV_box hz with h | ⟨o, ho, h⟩
           · exact .inl h
           · exact .inr (by rw [← h]; exact hni o ho)
          have hPl := placesV_len l
          generalize hPe : placesV l = P at hA2 hbx hPl ⊢
          obtain ⟨ps, hps⟩ : ∃ ps : List Plt, P.map (fun x => x.1.1) = ps := ⟨_, rfl⟩
          rw [hps] at hA2
          refine evk_loop ⟨{ i : Nat // i ≤ P.length }, 1000, fun q => [(0, .one (.sl yCT c false)), (10, .one (.sl yPM P false)), (11, .one (.loc 70 0)), (46, .one (.sl yPM P false)), (47, .one (.int .i64 P.length)), (48, .one (.int .i64 q.1))], fun q => [(70, .cells 86 [.map 71]), (71, .mapb yPL .unit true true (setX ((P.take q.1).map (fun x => x.1.1))))], fun q => P.length - q.1⟩ ⟨0, Nat.zero_le _⟩ ?_ ?_
          · simp only [go_sem]
            try (first | rfl | exact ⟨rfl, rfl⟩ | (and_intros <;> first | trivial | rfl | omega))
          · rintro ⟨i, (hi : i ≤ P.length)⟩
            (simp -implicitDefEqProofs only [go_sem, Bool.not_eq_true', Bool.not_eq_false', Bool.or_eq_true, Bool.or_eq_false_iff, Bool.and_eq_true, Bool.and_eq_false_iff, decide_eq_true_eq, decide_eq_false_iff_not, Classical.not_not, not_or, maxLen, con12, con32, con27, conNum, con34, con35, con37, con36, con38, con39, hT, hG, hk, hK, Tryz.results12, conNumO, conNumD]); (try simp (disch := decide +kernel) only [drawn, true_and, and_true])
            obtain ⟨o, ho⟩ : ∃ o, P.getD i pm0 = o := ⟨_, rfl⟩
            have eo : P.getD (i : Int).toNat (((0, 0, 0), 0, 0), 0, []) = o := ho
            try simp only [eo]
            have hsx : i < P.length → setX ((P.take (i + 1)).map (fun x => x.1.1)) = mset (kt := yPL) (setX ((P.take i).map (fun x => x.1.1))) o.1.1 () := fun h => by
             rw [← setX_push, List.take_succ_eq_append_getElem h, List.map_append, ← getD_lt (d := pm0) h, ho]; rfl
            (repeat' (with_reducible (first | refine And.intro ?_ ?_ | intro _))) <;> (try (first | with_reducible (first | done | assumption | omega | contradiction) | decide))
            all_goals first
             | (have e1 := hsx (by omega)
                refine fin_lp ⟨i + 1, by omega⟩ ?_ (by dsimp only; omega)
                simp only [go_sem]
                rw [e1]
                try (first | rfl | exact ⟨rfl, rfl⟩ | (and_intros <;> first | trivial | rfl | omega))
                done)
             | omega
             | (have e4 : P.take i = P := List.take_of_length_le (by omega)
                simp only [e4, hps]
                refine evk_loop ⟨{ i : Nat // i ≤ c.length }, 1000, fun q => [(10, .one (.sl yPM P false)), (11, .one (.loc 70 0)), (14, .one (.row 73)), (61, .one (.int .i64 c.length)), (62, .one (.int .i64 q.1))], fun q => [(70, .cells 86 [.map 71]), (71, .mapb yPL .unit true true (setX ps)), (73, .row 75 yCT ((c.take q.1).map (clrC ps) ++ c.drop q.1))], fun q => c.length - q.1⟩ ⟨0, Nat.zero_le _⟩ ?_ ?_
                · simp only [go_sem]
                  try (first | rfl | exact ⟨rfl, rfl⟩ | (and_intros <;> first | trivial | rfl | omega))
                · rintro ⟨i, (hi : i ≤ c.length)⟩
                  (simp -implicitDefEqProofs only [go_sem, Bool.not_eq_true', Bool.not_eq_false', Bool.or_eq_true, Bool.or_eq_false_iff, Bool.and_eq_true, Bool.and_eq_false_iff, decide_eq_true_eq, decide_eq_false_iff_not, Classical.not_not, not_or, maxLen, con12, con32, con27, conNum, con34, con35, con37, con36, con38, con39, hT, hG, hk, hK, Tryz.results12, conNumO, conNumD]); (try simp (disch := decide +kernel) only [drawn, true_and, and_true])
                  obtain ⟨o, ho⟩ : ∃ o, c.getD i ct0 = o := ⟨_, rfl⟩
                  have hrl : ((c.take i).map (clrC ps) ++ c.drop i).length = c.length := by simp; omega
                  have hro : i < c.length → ((c.take i).map (clrC ps) ++ c.drop i).getD (i : Int).toNat (0, (ByteArray.empty, 0, ByteArray.empty, 0), 0, 0, 0, 0, 0, []) = o := fun h => by
                   rw [show (i : Int).toNat = i by omega, List.getD_eq_getElem?_getD, List.getElem?_append_right (by simp; omega), List.length_map, List.length_take, show i - min i c.length = 0 by omega, List.getElem?_drop, Nat.add_zero, ← ho, List.getD_eq_getElem?_getD]; rfl
                  have hsx : i < c.length → ((c.take i).map (clrC ps) ++ c.drop i).set (i : Int).toNat (clrC ps o) = (c.take (i + 1)).map (clrC ps) ++ c.drop (i + 1) := fun h => by
                   rw [show (i : Int).toNat = i by omega, List.set_append_right _ _ (by simp; omega), List.length_map, List.length_take, show i - min i c.length = 0 by omega, List.drop_eq_getElem_cons h, List.set_cons_zero, List.take_succ_eq_append_getElem h, List.map_append, ← getD_lt (d := ct0) h, ho]; simp
                  simp only [hrl]
                  refine ⟨fun hlt => ?_, fun hge => ?_⟩
                  · have hro := hro (by omega)
                    have hsx := hsx (by omega)
                    have hop := hcp o (by rw [← ho]; exact getD_mem (by omega))
                    have hop2 : List.length o.2.2.2.2.2.2.2 ≤ 60 := hop
                    have ec : (o.1, o.2.1, o.2.2.1, o.2.2.2.1, o.2.2.2.2.1, o.2.2.2.2.2.1, o.2.2.2.2.2.2.1, List.filter (fun x => !fz (setX ps) x) o.2.2.2.2.2.2.2) = clrC ps o := by
                     unfold clrC setPcs
                     simp only [fz_in]
                    simp only [hro]
                    (repeat' (with_reducible (first | refine And.intro ?_ ?_ | intro _))) <;> (try (first | with_reducible (first | done | assumption | omega | contradiction) | decide))
                    all_goals first
                     | (refine fin_lp ⟨i + 1, by omega⟩ ?_ (by dsimp only; omega)
                        simp only [go_sem]
                        simp only [ec, hsx]
                        try (first | rfl | exact ⟨rfl, rfl⟩ | (and_intros <;> first | trivial | rfl | omega))
                        done)
                     | omega
                     | fail
                  · have e4 : (c.take i).map (clrC ps) ++ c.drop i = c.map (clrC ps) := by
                     rw [List.take_of_length_le (by omega), List.drop_of_length_le (by omega), List.append_nil]
                    simp only [e4]
                    (repeat' (with_reducible (first | refine And.intro ?_ ?_ | intro _))) <;> (try (first | with_reducible (first | done | assumption | omega | contradiction) | decide))
                    all_goals first
                     | omega
                     | (refine evk_loop ⟨{ q : Nat × List Cnt // q.1 ≤ P.length ∧ forceAll (P.drop q.1) q.2 = forceAll P (c.map (clrC ps)) ∧ q.2.map (fun c => c.num) = c.map (fun c => c.num) }, 1000, fun q => [(10, .one (.sl yPM P false)), (14, .one (.row 73)), (78, .one (.sl yPM P false)), (79, .one (.int .i64 P.length)), (80, .one (.int .i64 q.1.1))], fun q => [(73, .row 75 yCT q.1.2)], fun q => P.length - q.1.1⟩ ⟨(0, c.map (clrC ps)), Nat.zero_le _, rfl, by rw [List.map_map]; rfl⟩ ?_ ?_
                        · simp only [go_sem]
                          try (first | rfl | exact ⟨rfl, rfl⟩ | (and_intros <;> first | trivial | rfl | omega))
                        · rintro ⟨⟨j, R⟩, (hj : j ≤ P.length), (hf : forceAll (P.drop j) R = forceAll P (c.map (clrC ps))), (hnm : R.map (fun c => c.num) = c.map (fun c => c.num))⟩
                          (simp -implicitDefEqProofs only [go_sem, Bool.not_eq_true', Bool.not_eq_false', Bool.or_eq_true, Bool.or_eq_false_iff, Bool.and_eq_true, Bool.and_eq_false_iff, decide_eq_true_eq, decide_eq_false_iff_not, Classical.not_not, not_or, maxLen, con12, con32, con27, conNum, con34, con35, con37, con36, con38, con39, hT, hG, hk, hK, Tryz.results12, conNumO, conNumD]); (try simp (disch := decide +kernel) only [drawn, true_and, and_true])
                          have hRl : R.length = c.length := by have := congrArg List.length hnm; rw [List.length_map, List.length_map] at this; exact this
                          obtain ⟨o, ho⟩ : ∃ o, P.getD j pm0 = o := ⟨_, rfl⟩
                          have eo : P.getD (j : Int).toNat (((0, 0, 0), 0, 0), 0, []) = o := ho
                          have hbo : j < P.length → o.2.1 = 0 ∨ 0 ≤ numIdx R o.2.1 := fun h => by
                           rw [numIdx_nums hnm]; exact hbx o (by rw [← ho]; exact getD_mem h)
                          have hsp : 0 ≤ numIdx R o.2.1 → (numIdx R o.2.1).toNat < R.length := fun h => (idxV_spec (d := ct0) h).1
                          have hdr : j < P.length → P.drop j = o :: P.drop (j + 1) := fun h => by rw [List.drop_eq_getElem_cons h, ← getD_lt (d := pm0) h, ho]
                          simp only [eo]
                          obtain ⟨q, hq⟩ : ∃ q, R.getD (numIdx R o.2.1).toNat ct0 = q := ⟨_, rfl⟩
                          have eq1 : R.getD (numIdx R o.2.1).toNat (0, (ByteArray.empty, 0, ByteArray.empty, 0), 0, 0, 0, 0, 0, []) = q := hq
                          have eO : ((o.1.1.1, o.1.1.2.1, o.1.1.2.2), o.1.2.1, o.1.2.2) = o.1 := rfl
                          have eQ : (q.1, (q.2.1.1, q.2.1.2.1, q.2.1.2.2.1, q.2.1.2.2.2), q.2.2.1, q.2.2.2.1, q.2.2.2.2.1, q.2.2.2.2.2.1, q.2.2.2.2.2.2.1, q.2.2.2.2.2.2.2) = q := rfl
                          try simp only [eq1, eO, eQ]
                          obtain ⟨W, hW⟩ : ∃ W, forceV q o.1 = W := ⟨_, rfl⟩
                          try simp only [hW]
                          have hst : j < P.length → forceAll (P.drop j) R = if o.2.1 = 0 then forceAll (P.drop (j + 1)) R else if W.2 ≠ 0 then ([], W.2) else forceAll (P.drop (j + 1)) (R.set (numIdx R o.2.1).toNat W.1) := fun h => by
                           rw [hdr h, forceAll, hq, hW]
                          (repeat' (with_reducible (first | refine And.intro ?_ ?_ | intro _))) <;> (try (first | with_reducible (first | done | assumption | omega | contradiction) | decide))
                          all_goals first
                           | (have h0 : o.2.1 = 0 := by assumption
                              have hst := hst (by omega)
                              rw [if_pos h0] at hst
                              refine fin_lp ⟨(j + 1, R), (by show j + 1 ≤ P.length; omega), hst.symm.trans hf, hnm⟩ ?_ (by dsimp only; omega)
                              simp only [go_sem]
                              try (first | rfl | exact ⟨rfl, rfl⟩ | (and_intros <;> first | trivial | rfl | omega))
                              done)
                           | (have h0 : ¬ o.2.1 = 0 := by assumption
                              have h5 : W.2 = 0 := by assumption
                              have hst := hst (by omega)
                              rw [if_neg h0, if_neg (by simp [h5])] at hst
                              have hb := (hbo (by omega)).resolve_left h0
                              have hsp := hsp hb
                              refine fin_lp ⟨(j + 1, R.set (numIdx R o.2.1).toNat W.1), (by show j + 1 ≤ P.length; omega), hst.symm.trans hf, ?_⟩ ?_ (by dsimp only; omega)
                              · show (R.set _ _).map _ = _
                                rw [List.map_set, ← hnm]
                                have hWn : W.1.num = q.num := by rw [← hW]; exact forceV_num (by rw [hW]; exact h5)
                                rw [hWn, ← hq]
                                refine List.ext_getElem (by simp) fun k h1 h2 => ?_
                                rw [List.getElem_set]
                                split
                                · rename_i e; subst e; rw [List.getElem_map, getD_lt (d := ct0) hsp]
                                · rfl
                              · simp only [go_sem]
                                try (first | rfl | exact ⟨rfl, rfl⟩ | (and_intros <;> first | trivial | rfl | omega))
                                done)
                           | (have h0 : ¬ o.2.1 = 0 := by assumption
                              have h5 : ¬ W.2 = 0 := by assumption
                              have hst := hst (by omega)
                              rw [if_neg h0, if_pos h5] at hst
                              have e : applyV c l = ([], W.2) := by rw [hA2, ← hf, hst]
                              first | (rw [e]; done) | (rw [e]; rfl))
                           | (have h0 : ¬ o.2.1 = 0 := by assumption
                              have hb := (hbo (by omega)).resolve_left h0
                              have hsp := hsp hb
                              omega)
                           | omega
                           | (have e5 : P.drop j = [] := List.drop_of_length_le (by omega)
                              have e : applyV c l = (R, 0) := by rw [hA2, ← hf, e5]; rfl
                              first | (rw [e]; done) | (rw [e]; rfl))
                           | fail)
                     | fail)
             | fail)
       | fail)
end Go.Proofs.YthiddcobegnokaaGreat
