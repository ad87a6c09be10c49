/- merge.Apply's parts. -/
import Derived.Test.YthiddcobegnokaaMqKA
import Derived.Test.YthiddcobegnokaaMqK3ToKeys
import Derived.Test.YthiddcobegnokaaEvBox
import Derived.Test.YthiddcobegnokaaMqKfToKV
set_option linter.unusedSimpArgs false
set_option linter.unusedVariables false
set_option maxRecDepth 100000
set_option maxHeartbeats 8000000
namespace Go.Proofs.Ythiddcobegnokaa
open Go.Ev

/-- Two contracts of one function: one if the first argument is a row of the call's own, one if not. -/
def isRowA : List AV → Bool
 | .one (.row _) :: _ => true
 | _ => false
def orCtr (A B : Ctr) : Ctr := fun avs m fr => if isRowA avs = true then A avs m fr else B avs m fr
theorem orCtr_ok {P : Program} {f : FuncId} {A B : Ctr} (hA : CtrOk P f A) (hB : CtrOk P f B) : CtrOk P f (orCtr A B) := by
 intro D hD cx hcx σ N m w fr avs vs h1 h2 h3 h4
 unfold orCtr at h4 ⊢
 by_cases h : isRowA avs = true
 · simp only [if_pos h] at h4 ⊢; exact hA D hD cx hcx σ N m w fr avs vs h1 h2 h3 h4
 · simp only [if_neg h] at h4 ⊢; exact hB D hD cx hcx σ N m w fr avs vs h1 h2 h3 h4
attribute [go_sem] isRowA orCtr
def setX (l : List Plt) : List (Plt × Unit) := l.foldl (fun m x => mset (kt := yPL) m x ()) []
theorem setX_push (l : List Plt) (x : Plt) : setX (l ++ [x]) = mset (kt := yPL) (setX l) x () := by
 unfold setX; rw [List.foldl_append]; rfl
theorem setX_in (x : Plt) : ∀ (l : List Plt), (mget (kt := yPL) (setX l) x).isSome = true ↔ x ∈ l := by
 have key : ∀ (l : List Plt) (m : List (Plt × Unit)), (mget (kt := yPL) (l.foldl (fun m x => mset (kt := yPL) m x ()) m) x).isSome = true ↔ (x ∈ l ∨ (mget (kt := yPL) m x).isSome = true) := by
  intro l
  induction l with
  | nil => intro m; simp
  | cons y l ih =>
    intro m
    rw [List.foldl_cons, ih, mget_mset (kt := yPL) (β := Unit) keyEq_plt]
    by_cases h : keyEq yPL x y = true
    · rw [if_pos h]; simp [(keyEq_plt x y).1 h]
    · rw [if_neg h]
      have : x ≠ y := fun e => h ((keyEq_plt x y).2 e)
      simp [this]
 intro l
 rw [setX, key]
 simp [mget]
def con77 : Con := { ps := [.d true yCT, .p 3 (.int .i64)], rs := [.d false .bool], pre := fun _ => True, out := fun (x : Cnt × Int × Unit) => (decide (x.1.num = x.2.1), ()), nw := id }
theorem c77 : CtrOk Try.prog 77 con77.ctr :=
 con_sound (G := ⟨[], [], [], []⟩) tab_ok EnvOk.nil rfl Try.func77 rfl con77 15 (by kernel_rfl) (by decide) (by decide) rfl (by decide) rfl (by
  rintro ⟨⟨(n : Int), ⟨a1, (a2 : Int), a3, (a4 : Int)⟩, (c : Int), (lm : Int), (t : Int), (p : Int), (r : Int), (l : List Pce)⟩, (k : Int), _⟩ hpre hwf X hT hG hk hK
  (simp -implicitDefEqProofs only [go_sem, Bool.not_eq_true', Bool.not_eq_false', Bool.or_eq_true, Bool.or_eq_false_iff, Bool.and_eq_true, Bool.and_eq_false_iff, decide_eq_true_eq, decide_eq_false_iff_not, Classical.not_not, not_or, maxLen, con77, hT, hG, hk, hK, Try.results77] at hwf ⊢); (try simp (disch := decide +kernel) only [drawn, true_and, and_true]))
def conIdxD : Con := { ps := [.d false (.sl yCT), .cl 77 [.p 3 (.int .i64)]], rs := [.d false (.int .i64)], pre := fun _ => True, out := fun (x : List Cnt × (Int × Unit) × Unit) => (numIdx x.1 x.2.1.1, ()), nw := id }
theorem cIdxD : CtrOk Try.prog 76 conIdxD.ctr :=
 con_sound (G := ⟨[(77, con77.ctr)], [], [], []⟩) tab_ok (EnvOk.cons c77 has77 EnvOk.nil) rfl Try.func76 rfl conIdxD 66483 (by kernel_rfl) (by decide) (by decide) rfl (by decide) rfl (by
  rintro ⟨(l : List Cnt), ⟨(n : Int), _⟩, _⟩ hpre hwf X hT hG hk hK
  skip
  (simp -implicitDefEqProofs only [go_sem, Bool.not_eq_true', Bool.not_eq_false', Bool.or_eq_true, Bool.or_eq_false_iff, Bool.and_eq_true, Bool.and_eq_false_iff, decide_eq_true_eq, decide_eq_false_iff_not, Classical.not_not, not_or, maxLen, conIdxD, con77, hT, hG, hk, hK, Try.results76] at hwf ⊢); (try simp (disch := decide +kernel) only [drawn, true_and, and_true])
  clear hwf
  refine fun _ => evk_loop ⟨{ i : Nat // i ≤ l.length ∧ ∀ k, k < i → (fun c : Cnt => decide (c.num = n)) (l.getD k ct0) = false }, 1000, fun q => [(0, .one (.sl yCT l false)), (1, .one (.fn 77 [.loc 12 0])), (4, .one (.int .i64 0)), (7, .one (.int .i64 l.length)), (8, .one (.int .i64 q.1))], fun q => [(12, .cells 3 [.int .i64 n])], fun q => l.length - q.1⟩ ⟨0, by omega, fun k hk => by omega⟩ ?_ ?_
  · simp only [go_sem]
    try (first | rfl | exact ⟨rfl, rfl⟩ | (and_intros <;> first | trivial | rfl | omega))
  · rintro ⟨i, (hi : i ≤ l.length), hz⟩
    (simp -implicitDefEqProofs only [go_sem, Bool.not_eq_true', Bool.not_eq_false', Bool.or_eq_true, Bool.or_eq_false_iff, Bool.and_eq_true, Bool.and_eq_false_iff, decide_eq_true_eq, decide_eq_false_iff_not, Classical.not_not, not_or, maxLen, conIdxD, con77, hT, hG, hk, hK, Try.results76]); (try simp (disch := decide +kernel) only [drawn, true_and, and_true])
    obtain ⟨o, ho⟩ : ∃ o, l.getD i ct0 = o := ⟨_, rfl⟩
    have eo : l.getD (i : Int).toNat (0, (ByteArray.empty, 0, ByteArray.empty, 0), 0, 0, 0, 0, 0, []) = o := ho
    try simp only [eo]
    (repeat' (with_reducible (first | refine And.intro ?_ ?_ | intro _))) <;> (try (first | with_reducible (first | done | assumption | omega | contradiction) | decide))
    all_goals first
     | (have h : o.1 = n := by assumption
        exact (idxV_at (d := ct0) hz (by omega) (by show decide ((l.getD i ct0).num = n) = true; rw [ho]; exact decide_eq_true h)).symm)
     | (have h : ¬ o.1 = n := by assumption
        refine fin_lp ⟨i + 1, by omega, lt_succ hz (by show decide ((l.getD i ct0).num = n) = false; rw [ho]; exact decide_eq_false h)⟩ (by simp only [go_sem]; first | rfl | ((repeat' apply And.intro) <;> first | rfl | assumption | omega)) (by dsimp only; omega)
        done)
     | exact (idxV_none (d := ct0) fun k hk => hz k (by omega)).symm
     | fail)
def conIdxO : Con := { ps := [.o 64 yCT, .cl 77 [.p 3 (.int .i64)]], rs := [.d false (.int .i64)], pre := fun (x : List Cnt × (Int × Unit) × Unit) => x.1.length ≤ 1000000, out := fun (x : List Cnt × (Int × Unit) × Unit) => (numIdx x.1 x.2.1.1, ()), nw := id }
theorem cIdxO : CtrOk Try.prog 76 conIdxO.ctr :=
 con_sound (G := ⟨[(77, con77.ctr)], [], [], []⟩) tab_ok (EnvOk.cons c77 has77 EnvOk.nil) rfl Try.func76 rfl conIdxO 66483 (by kernel_rfl) (by decide) (by decide) rfl (by decide) rfl (by
  rintro ⟨(l : List Cnt), ⟨(n : Int), _⟩, _⟩ hpre hwf X hT hG hk hK
  have hlp : l.length ≤ 1000000 := hpre
  (simp -implicitDefEqProofs only [go_sem, Bool.not_eq_true', Bool.not_eq_false', Bool.or_eq_true, Bool.or_eq_false_iff, Bool.and_eq_true, Bool.and_eq_false_iff, decide_eq_true_eq, decide_eq_false_iff_not, Classical.not_not, not_or, maxLen, conIdxO, con77, hT, hG, hk, hK, Try.results76] at hwf ⊢); (try simp (disch := decide +kernel) only [drawn, true_and, and_true])
  clear hwf
  refine fun _ => evk_loop ⟨{ i : Nat // i ≤ l.length ∧ ∀ k, k < i → (fun c : Cnt => decide (c.num = n)) (l.getD k ct0) = false }, 1000, fun q => [(0, .one (.row 0)), (1, .one (.fn 77 [.loc 12 0])), (4, .one (.int .i64 0)), (7, .one (.int .i64 l.length)), (8, .one (.int .i64 q.1))], fun q => [(0, .row 64 yCT l), (12, .cells 3 [.int .i64 n])], fun q => l.length - q.1⟩ ⟨0, by omega, fun k hk => by omega⟩ ?_ ?_
  · simp only [go_sem]
    try (first | rfl | exact ⟨rfl, rfl⟩ | (and_intros <;> first | trivial | rfl | omega))
  · rintro ⟨i, (hi : i ≤ l.length), hz⟩
    (simp -implicitDefEqProofs only [go_sem, Bool.not_eq_true', Bool.not_eq_false', Bool.or_eq_true, Bool.or_eq_false_iff, Bool.and_eq_true, Bool.and_eq_false_iff, decide_eq_true_eq, decide_eq_false_iff_not, Classical.not_not, not_or, maxLen, conIdxO, con77, hT, hG, hk, hK, Try.results76]); (try simp (disch := decide +kernel) only [drawn, true_and, and_true])
    obtain ⟨o, ho⟩ : ∃ o, l.getD i ct0 = o := ⟨_, rfl⟩
    have eo : l.getD (i : Int).toNat (0, (ByteArray.empty, 0, ByteArray.empty, 0), 0, 0, 0, 0, 0, []) = o := ho
    try simp only [eo]
    (repeat' (with_reducible (first | refine And.intro ?_ ?_ | intro _))) <;> (try (first | with_reducible (first | done | assumption | omega | contradiction) | decide))
    all_goals first
     | (have h : o.1 = n := by assumption
        exact (idxV_at (d := ct0) hz (by omega) (by show decide ((l.getD i ct0).num = n) = true; rw [ho]; exact decide_eq_true h)).symm)
     | (have h : ¬ o.1 = n := by assumption
        refine fin_lp ⟨i + 1, by omega, lt_succ hz (by show decide ((l.getD i ct0).num = n) = false; rw [ho]; exact decide_eq_false h)⟩ (by simp only [go_sem]; first | rfl | ((repeat' apply And.intro) <;> first | rfl | assumption | omega)) (by dsimp only; omega)
        done)
     | exact (idxV_none (d := ct0) fun k hk => hz k (by omega)).symm
     | fail)
def conNumD : Con := { ps := [.d false (.sl yCT), .d false (.int .i64)], rs := [.d false (.int .i64)], pre := fun _ => True, out := fun (x : List Cnt × Int × Unit) => (numIdx x.1 x.2.1, ()), nw := id }
theorem cNumD : CtrOk Try.prog 51 conNumD.ctr :=
 con_sound (G := ⟨[(76, conIdxD.ctr)], [], [], []⟩) tab_ok (EnvOk.cons cIdxD has76 EnvOk.nil) rfl Try.func51 rfl conNumD 27 (by kernel_rfl) (by decide) (by decide) rfl (by decide) rfl (by
  rintro ⟨(l : List Cnt), (n : Int), _⟩ hpre hwf X hT hG hk hK
  skip
  (simp -implicitDefEqProofs only [go_sem, Bool.not_eq_true', Bool.not_eq_false', Bool.or_eq_true, Bool.or_eq_false_iff, Bool.and_eq_true, Bool.and_eq_false_iff, decide_eq_true_eq, decide_eq_false_iff_not, Classical.not_not, not_or, maxLen, conNumD, conIdxD, hT, hG, hk, hK, Try.results51] at hwf ⊢); (try simp (disch := decide +kernel) only [drawn, true_and, and_true])
  skip)
def conNumO : Con := { ps := [.o 64 yCT, .d false (.int .i64)], rs := [.d false (.int .i64)], pre := fun (x : List Cnt × Int × Unit) => x.1.length ≤ 1000000, out := fun (x : List Cnt × Int × Unit) => (numIdx x.1 x.2.1, ()), nw := id }
theorem cNumO : CtrOk Try.prog 51 conNumO.ctr :=
 con_sound (G := ⟨[(76, conIdxO.ctr)], [], [], []⟩) tab_ok (EnvOk.cons cIdxO has76 EnvOk.nil) rfl Try.func51 rfl conNumO 27 (by kernel_rfl) (by decide) (by decide) rfl (by decide) rfl (by
  rintro ⟨(l : List Cnt), (n : Int), _⟩ hpre hwf X hT hG hk hK
  have hlp : l.length ≤ 1000000 := hpre
  (simp -implicitDefEqProofs only [go_sem, Bool.not_eq_true', Bool.not_eq_false', Bool.or_eq_true, Bool.or_eq_false_iff, Bool.and_eq_true, Bool.and_eq_false_iff, decide_eq_true_eq, decide_eq_false_iff_not, Classical.not_not, not_or, maxLen, conNumO, conIdxO, hT, hG, hk, hK, Try.results51] at hwf ⊢); (try simp (disch := decide +kernel) only [drawn, true_and, and_true])
  exact hlp)
def conNum : Raw := ⟨orCtr conNumO.ctr conNumD.ctr⟩
theorem cNum : CtrOk Try.prog 51 conNum.ctr := orCtr_ok cNumO cNumD
def con55 : BCon := { ps := [.d true yPC, .bx], rs := [.d false .bool], e := 96, k := .map yPL .unit true true, pre := fun _ _ => True, out := fun (x : Pce × Unit × Unit) z => ((mget (kt := yPL) z x.1.1).isSome, ()), nw := fun x _ => x, nx := fun _ z => z }
theorem c55 : CtrOk Try.prog 55 con55.ctr :=
 box_sound (G := ⟨[], [], [], []⟩) tab_ok EnvOk.nil rfl Try.func55 rfl con55 47 (by kernel_rfl) (by decide) (by decide) rfl (by decide) rfl (by
  rintro ⟨⟨⟨(a : Int), (b : Int), (c : Int)⟩, (d : Int), (e : Int)⟩, _⟩ (z : List (Plt × Unit)) hpre hwf X hT hG hk hK
  (simp -implicitDefEqProofs only [go_sem, Bool.not_eq_true', Bool.not_eq_false', Bool.or_eq_true, Bool.or_eq_false_iff, Bool.and_eq_true, Bool.and_eq_false_iff, decide_eq_true_eq, decide_eq_false_iff_not, Classical.not_not, not_or, maxLen, con55, hT, hG, hk, hK, Try.results55] at hwf ⊢); (try simp (disch := decide +kernel) only [drawn, true_and, and_true]))
theorem idxV_m1 {α : Type} {p : α → Bool} {l : List α} (h : idxV p l < 0) : idxV p l = -1 := by
 unfold idxV at h ⊢
 split at h
 · omega
 · rfl
def fz (z : List (Plt × Unit)) (x : Pce) : Bool := (mget (kt := yPL) z x.1).isSome
def con78 : BCon := { ps := [.o 35 yPC, .cl 55 [.bx]], rs := [.d false (.int .i64)], e := 96, k := .map yPL .unit true true, pre := fun _ _ => True, out := fun (x : List Pce × (Unit × Unit) × Unit) z => (idxV (fz z) x.1, ()), nw := fun x _ => x, nx := fun _ z => z }
theorem c78 : CtrOk Try.prog 78 con78.ctr :=
 box_sound (G := ⟨[(55, con55.ctr)], [], [], []⟩) tab_ok (EnvOk.cons c55 has55 EnvOk.nil) rfl Try.func78 rfl con78 66483 (by kernel_rfl) (by decide) (by decide) rfl (by decide) rfl (by
  rintro ⟨(l : List Pce), _⟩ (z : List (Plt × Unit)) hpre hwf X hT hG hk hK
  (simp -implicitDefEqProofs only [go_sem, Bool.not_eq_true', Bool.not_eq_false', Bool.or_eq_true, Bool.or_eq_false_iff, Bool.and_eq_true, Bool.and_eq_false_iff, decide_eq_true_eq, decide_eq_false_iff_not, Classical.not_not, not_or, maxLen, con78, con55, hT, hG, hk, hK, Try.results78] at hwf ⊢); (try simp (disch := decide +kernel) only [drawn, true_and, and_true])
  clear hwf
  refine fun _ => evk_loop ⟨{ i : Nat // i ≤ l.length ∧ ∀ k, k < i → fz z (l.getD k pc0) = false }, 1000, fun q => [(0, .one (.row 0)), (1, .one (.fn 55 [.loc 31 0])), (4, .one (.int .i64 0)), (7, .one (.int .i64 l.length)), (8, .one (.int .i64 q.1))], fun q => [(0, .row 35 yPC l), (31, .cells 96 [.map 40]), (40, .mapb yPL .unit true true z)], fun q => l.length - q.1⟩ ⟨0, by omega, fun k hk => by omega⟩ ?_ ?_
  · simp only [go_sem]
    try (first | rfl | exact ⟨rfl, rfl⟩ | (and_intros <;> first | trivial | rfl | omega))
  · rintro ⟨i, (hi : i ≤ l.length), hz⟩
    (simp -implicitDefEqProofs only [go_sem, Bool.not_eq_true', Bool.not_eq_false', Bool.or_eq_true, Bool.or_eq_false_iff, Bool.and_eq_true, Bool.and_eq_false_iff, decide_eq_true_eq, decide_eq_false_iff_not, Classical.not_not, not_or, maxLen, con78, con55, hT, hG, hk, hK, Try.results78]); (try simp (disch := decide +kernel) only [drawn, true_and, and_true])
    obtain ⟨o, ho⟩ : ∃ o, l.getD i pc0 = o := ⟨_, rfl⟩
    have eo : l.getD (i : Int).toNat ((0, 0, 0), 0, 0) = o := ho
    try simp only [eo]
    have eO : (o.1.1, o.1.2.1, o.1.2.2) = o.1 := rfl
    try simp only [eO]
    (repeat' (with_reducible (first | refine And.intro ?_ ?_ | intro _))) <;> (try (first | with_reducible (first | done | assumption | omega | contradiction) | decide))
    all_goals first
     | (have h : (mget (kt := yPL) z o.1).isSome = true := by assumption
        exact (idxV_at (d := pc0) hz (by omega) (by rw [ho]; exact h)).symm)
     | (have h : (mget (kt := yPL) z o.1).isSome = false := by assumption
        refine fin_lp ⟨i + 1, by omega, lt_succ hz (by rw [ho]; exact h)⟩ (by simp only [go_sem]; first | rfl | ((repeat' apply And.intro) <;> first | rfl | assumption | omega)) (by dsimp only; omega)
        done)
     | exact (idxV_none (d := pc0) fun k hk => hz k (by omega)).symm
     | fail)
def con53 : BCon := { ps := [.oc 35 yPC, .cl 55 [.bx]], rs := [.o 35 yPC], e := 96, k := .map yPL .unit true true, pre := fun (x : List Pce × (Unit × Unit) × Unit) _ => x.1.length ≤ 1048576, out := fun (x : List Pce × (Unit × Unit) × Unit) z => (x.1.filter (fun x => !fz z x), ()), nw := fun x _ => x, nx := fun _ z => z }
theorem c53 : CtrOk Try.prog 53 con53.ctr :=
 box_sound (G := ⟨[(78, con78.ctr), (55, con55.ctr)], [], [(13, 2), (38, 1), (41, 2)], []⟩) tab_ok (EnvOk.cons c78 has78 (EnvOk.cons c55 has55 EnvOk.nil)) rfl Try.func53 rfl con53 537399539 (by kernel_rfl) (by decide) (by decide) rfl (by decide) rfl (by
  rintro ⟨(l : List Pce), _⟩ (z : List (Plt × Unit)) hpre hwf X hT hG hk hK
  have hl : l.length ≤ 1048576 := hpre
  (simp -implicitDefEqProofs only [go_sem, Bool.not_eq_true', Bool.not_eq_false', Bool.or_eq_true, Bool.or_eq_false_iff, Bool.and_eq_true, Bool.and_eq_false_iff, decide_eq_true_eq, decide_eq_false_iff_not, Classical.not_not, not_or, maxLen, con53, con78, con55, hT, hG, hk, hK, Try.results53] at hwf ⊢); (try simp (disch := decide +kernel) only [drawn, true_and, and_true])
  clear hwf
  obtain ⟨F, hF⟩ : ∃ F : Pce → Bool, F = fun x => !fz z x := ⟨_, rfl⟩
  have hFa : ∀ x, F x = !fz z x := fun x => by rw [hF]
  have hfe : (fun x => !fz z x) = F := hF.symm
  simp only [hfe]
  refine fun _ => ⟨fun h => ?_, fun h => ?_⟩
  · have := idxV_neg (p := fz z) (l := l) (by omega)
    rw [List.filter_eq_self.2 fun x hx => by rw [hFa, this x hx]; rfl]
  · have hn : 0 ≤ idxV (fz z) l := by
     apply Classical.byContradiction
     intro hq
     have := idxV_m1 (p := fz z) (l := l) (by omega)
     exact h this
    obtain ⟨hi, h2, h3⟩ := idxV_spec (d := pc0) hn
    obtain ⟨i, hq⟩ : ∃ i : Nat, idxV (fz z) l = i := ⟨(idxV (fz z) l).toNat, by omega⟩
    rw [hq] at hi h2 h3 ⊢
    have hi : i < l.length := hi
    have h2 : fz z (l.getD i pc0) = true := h2
    have h3 : ∀ k, k < i → fz z (l.getD k pc0) = false := h3
    refine ⟨⟨by omega, by omega⟩, ?_⟩
    have b0 : (l.take i).filter F = l.take i := List.filter_eq_self.2 fun x hx => by
     obtain ⟨k, hk, rfl⟩ := getD_pc hx
     have hki : k < i := by rw [List.length_take] at hk; omega
     rw [hFa, List.getD_eq_getElem?_getD, List.getElem?_take_of_lt hki, ← List.getD_eq_getElem?_getD, h3 k hki]; rfl
    have b1 : l.take i = (l.take (i + 1)).filter F := by
     rw [List.take_succ_eq_append_getElem hi, List.filter_append, b0, ← getD_lt (d := pc0) hi, List.filter_cons_of_neg (by rw [hFa, h2]; simp)]; simp
    refine evk_loop ⟨{ q : Nat × Nat × List Pce // q.1 ≤ q.2.1 ∧ q.2.1 ≤ l.length ∧ q.2.2.length = l.length ∧ q.2.2.take q.1 = (l.take q.2.1).filter F ∧ q.2.2.drop q.2.1 = l.drop q.2.1 }, 1000, fun q => [(0, .one (.row 0)), (1, .one (.fn 55 [.loc 31 0])), (5, .one (.int .i64 q.1.1)), (6, .one (.int .i64 q.1.2.1))], fun q => [(0, .row 35 yPC q.1.2.2), (31, .cells 96 [.map 40]), (40, .mapb yPL .unit true true z)], fun q => l.length - q.1.2.1⟩ ⟨(i, i + 1, l), Nat.le_succ i, hi, rfl, b1, rfl⟩ ?_ ?_
    · simp only [go_sem]
      try (first | rfl | exact ⟨rfl, rfl⟩ | (and_intros <;> first | trivial | rfl | omega))
    · rintro ⟨⟨a, r, R⟩, (c1 : a ≤ r), (c2 : r ≤ l.length), (c3 : R.length = l.length), (c4 : R.take a = (l.take r).filter F), (c5 : R.drop r = l.drop r)⟩
      (simp -implicitDefEqProofs only [go_sem, Bool.not_eq_true', Bool.not_eq_false', Bool.or_eq_true, Bool.or_eq_false_iff, Bool.and_eq_true, Bool.and_eq_false_iff, decide_eq_true_eq, decide_eq_false_iff_not, Classical.not_not, not_or, maxLen, con53, con78, con55, hT, hG, hk, hK, Try.results53]); (try simp (disch := decide +kernel) only [drawn, true_and, and_true])
      refine fun _ => ⟨fun hlt => ?_, fun hge => ?_⟩
      · have hr : r < R.length := by omega
        have hr2 : r < l.length := by omega
        obtain ⟨o, ho⟩ : ∃ o, l.getD r pc0 = o := ⟨_, rfl⟩
        have hRr : R.getD r pc0 = o := by
         have := congrArg (fun q => q.getD 0 pc0) c5
         simp only [List.getD_eq_getElem?_getD, List.getElem?_drop, Nat.add_zero] at this
         rw [List.getD_eq_getElem?_getD, this, ← List.getD_eq_getElem?_getD, ho]
        have eo : R.getD (r : Int).toNat ((0, 0, 0), 0, 0) = o := hRr
        have eO : (o.1.1, o.1.2.1, o.1.2.2) = o.1 := rfl
        simp only [eo, eO]
        have hd : R.drop (r + 1) = l.drop (r + 1) := by rw [← List.drop_drop, c5, List.drop_drop]
        have hst : (l.take (r + 1)).filter F = (l.take r).filter F ++ (if F o = true then [o] else []) := by
         rw [List.take_succ_eq_append_getElem hr2, List.filter_append, ← getD_lt (d := pc0) hr2, ho]
         by_cases q : F o = true
         · rw [if_pos q, List.filter_cons_of_pos q]; rfl
         · rw [if_neg q, List.filter_cons_of_neg q]; rfl
        (repeat' (with_reducible (first | refine And.intro ?_ ?_ | intro _))) <;> (try (first | with_reducible (first | done | assumption | omega | contradiction) | decide))
        all_goals first
         | (have h0 : (mget (kt := yPL) z o.1).isSome = false := by assumption
            have h1 : F o = true := by rw [hFa]; unfold fz; rw [h0]; rfl
            have har : a < R.length := by omega
            refine fin_lp ⟨(a + 1, r + 1, R.set a o), by dsimp only; omega, by dsimp only; omega, by dsimp only; rw [List.length_set]; exact c3, ?_, ?_⟩ ?_ (by dsimp only; omega)
            · dsimp only
              rw [hst, if_pos h1, ← c4, List.take_succ_eq_append_getElem (by rw [List.length_set]; omega), List.take_set_of_le (Nat.le_refl _), List.getElem_set_self]
            · dsimp only
              rw [List.drop_set_of_lt (by omega), hd]
            · simp only [go_sem]
              try (first | rfl | exact ⟨rfl, rfl⟩ | (and_intros <;> first | trivial | rfl | omega))
              done)
         | (have h0 : (mget (kt := yPL) z o.1).isSome = true := by assumption
            have h1 : ¬ F o = true := by rw [hFa]; unfold fz; rw [h0]; simp
            refine fin_lp ⟨(a, r + 1, R), by dsimp only; omega, by dsimp only; omega, c3, by dsimp only; rw [hst, if_neg h1, List.append_nil]; exact c4, hd⟩ ?_ (by dsimp only; omega)
            simp only [go_sem]
            try (first | rfl | exact ⟨rfl, rfl⟩ | (and_intros <;> first | trivial | rfl | omega))
            done)
         | fail
      · refine ⟨by omega, ?_⟩
        have hr : r = l.length := by omega
        have e1 : (a : Int).toNat = a := by omega
        have e2 : ((R.length : Int) - (a : Int)).toNat = R.length - a := by omega
        have e3 : (a + (R.length - a) ≤ R.length) = True := by rw [eq_iff_iff, iff_true]; omega
        (simp -implicitDefEqProofs only [go_sem, Bool.not_eq_true', Bool.not_eq_false', Bool.or_eq_true, Bool.or_eq_false_iff, Bool.and_eq_true, Bool.and_eq_false_iff, decide_eq_true_eq, decide_eq_false_iff_not, Classical.not_not, not_or, maxLen, con53, con78, con55, hT, hG, hk, hK, Try.results53, e1, e2, e3]); (try simp (disch := decide +kernel) only [drawn, true_and, and_true])
        have e5 : (R.take a).length = a := by rw [List.length_take]; omega
        have e4 : List.take a (List.take a R ++ (List.replicate (R.length - a) ((0, 0, 0), 0, 0) ++ List.drop (a + (R.length - a)) R)) = l.filter F := by
         rw [List.take_append_of_le_length (by omega), List.take_of_length_le (by omega), c4, hr, List.take_of_length_le (Nat.le_refl _)]
        simp only [hfe]
        (repeat' (with_reducible (first | refine And.intro ?_ ?_ | intro _))) <;> (try (first | with_reducible (first | done | assumption | omega | contradiction) | decide))
        all_goals first
         | exact e4
         | (rw [List.length_append, e5]; omega)
         | fail)
end Go.Proofs.Ythiddcobegnokaa

/- merge.Apply. -/
set_option linter.unusedSimpArgs false
set_option linter.unusedVariables false
set_option maxRecDepth 100000
set_option maxHeartbeats 8000000
namespace Go.Proofs.Ythiddcobegnokaa
open Go.Ev

attribute [local go_sem] List.set_cons_succ List.set_cons_zero List.set_nil
def numsIn (c : List Cnt) (l : List Opn) : Bool := l.all (fun o => decide (0 ≤ numIdx c o.box))
def clrC (ps : List Plt) (o : Cnt) : Cnt := setPcs o (o.pcs.filter (fun x => !decide (x.1 ∈ ps)))
def forceAll : List Plc → List Cnt → List Cnt × Int
 | [], out => (out, 0)
 | x :: P, out => if x.2.1 = 0 then forceAll P out else if (forceV (out.getD (numIdx out x.2.1).toNat ct0) x.1).2 ≠ 0 then ([], (forceV (out.getD (numIdx out x.2.1).toNat ct0) x.1).2) else forceAll P (out.set (numIdx out x.2.1).toNat (forceV (out.getD (numIdx out x.2.1).toNat ct0) x.1).1)
/-- The containers after operations. -/
def applyV (c : List Cnt) (l : List Opn) : List Cnt × Int :=
 if checkV c ≠ 0 then ([], checkV c) else if valV l ≠ 0 then ([], valV l) else if numsIn c l = false then ([], 6) else forceAll (placesV l) (c.map (clrC ((placesV l).map (fun x => x.1.1))))
theorem fz_in (ps : List Plt) (x : Pce) : fz (setX ps) x = decide (x.1 ∈ ps) := by
 rw [Bool.eq_iff_iff, decide_eq_true_eq]; exact setX_in x.1 ps
theorem numIdx_nums {a b : List Cnt} (h : a.map (fun c => c.num) = b.map (fun c => c.num)) (n : Int) : numIdx a n = numIdx b n := by
 have key : ∀ a : List Cnt, numIdx a n = idxV (fun m => decide (m = n)) (a.map (fun c => c.num)) := fun a => by
  unfold numIdx idxV
  rw [List.findIdx?_map]; rfl
 rw [key, key, h]
theorem placesV_box {l : List Opn} {z : Plc} (h : z ∈ placesV l) : z.2.1 = 0 ∨ ∃ o ∈ l, o.box = z.2.1 := by
 unfold placesV at h
 split at h
 · cases h
 · obtain ⟨p, hp, rfl⟩ := List.mem_map.1 h
   have hne := about_ne hp
   unfold placeV
   dsimp only
   split
   · right
     have hl : 0 < (aboutP l p).length := List.length_pos_iff.2 hne
     have hm : (aboutP l p).getD ((aboutP l p).length - 1) o0 ∈ aboutP l p := getD_mem (by omega)
     exact ⟨_, (List.mem_filter.1 hm).1, rfl⟩
   · exact .inl rfl
theorem forceV_num {c : Cnt} {x : Pce} (h : (forceV c x).2 = 0) : (forceV c x).1.num = c.num := by
 unfold forceV at h ⊢
 split at h
 · rename_i q; exact absurd h q
 · rename_i q
   rw [if_neg q]
   split at h
   · cases h
   · rename_i q2
     rw [if_neg q2]
     split at h
     · cases h
     · rename_i q3
       rw [if_neg q3]
       split at h
       · cases h
       · rename_i q4
         rw [if_neg q4]; rfl
def con33 : Con := { ps := [.d false (.sl yCT), .d false (.sl yOP)], rs := [.d false (.sl yCT), .d false (.int .i64)], pre := fun _ => True, out := fun (x : List Cnt × List Opn × Unit) => ((applyV x.1 x.2.1).1, (applyV x.1 x.2.1).2, ()), nw := id }
theorem c33 : CtrOk Try.prog 33 con33.ctr :=
 con_sound (G := ⟨[(50, con50.ctr), (13, con13.ctr), (51, conNum.ctr), (23, con23.ctr), (52, con52.ctr), (54, con54.ctr), (53, con53.ctr), (55, con55.ctr), (37, con37.ctr)], [], [], []⟩) tab_ok (EnvOk.cons c50 has50 (EnvOk.cons c13 has13 (EnvOk.cons cNum has51 (EnvOk.cons c23 has23 (EnvOk.cons c52 has52 (EnvOk.cons c54 has54 (EnvOk.cons c53 has53 (EnvOk.cons c55 has55 (EnvOk.cons c37 has37 EnvOk.nil))))))))) rfl Try.func33 rfl con33 5070684305653338455940848873203 (by kernel_rfl) (by decide) (by decide) rfl (by decide) rfl (by
  rintro ⟨(c : List Cnt), (l : List Opn), _⟩ hpre hwf X hT hG hk hK
  (simp -implicitDefEqProofs only [go_sem, Bool.not_eq_true', Bool.not_eq_false', Bool.or_eq_true, Bool.or_eq_false_iff, Bool.and_eq_true, Bool.and_eq_false_iff, decide_eq_true_eq, decide_eq_false_iff_not, Classical.not_not, not_or, maxLen, con33, con50, con13, conNum, con23, con52, con54, con53, con55, con37, hT, hG, hk, hK, Try.results33, conNumO, conNumD] at hwf ⊢); (try simp (disch := decide +kernel) only [drawn, true_and, and_true])
  clear hwf
  refine fun _ => ⟨fun h => ?_, fun h1 _ => ⟨fun h2 => ?_, fun h2 hll => ?_⟩⟩
  · have e : applyV c l = ([], checkV c) := by unfold applyV; rw [if_pos h]
    rw [e]; exact ⟨rfl, rfl⟩
  · have e : applyV c l = ([], valV l) := by unfold applyV; rw [if_neg (by simp [h1]), if_pos h2]
    rw [e]; exact ⟨rfl, rfl⟩
  · have hok := checkV_iff.1 h1
    have hcl := hok.len
    have hcp : ∀ o ∈ c, o.pcs.length ≤ 60 := fun o ho => (hok.ok o ho).2.1
    have hA : applyV c l = if numsIn c l = false then ([], 6) else forceAll (placesV l) (c.map (clrC ((placesV l).map (fun x => x.1.1)))) := by
     unfold applyV; rw [if_neg (by simp [h1]), if_neg (by simp [h2])]
    refine evk_loop ⟨{ i : Nat // i ≤ l.length ∧ ∀ k, k < i → 0 ≤ numIdx c (l.getD k o0).box }, 1000, fun q => [(0, .one (.sl yCT c false)), (1, .one (.sl yOP l false)), (31, .one (.sl yOP l false)), (32, .one (.int .i64 l.length)), (33, .one (.int .i64 q.1))], fun q => [], fun q => l.length - q.1⟩ ⟨0, Nat.zero_le _, fun k hk => by omega⟩ ?_ ?_
    · simp only [go_sem]
      try (first | rfl | exact ⟨rfl, rfl⟩ | (and_intros <;> first | trivial | rfl | omega))
    · rintro ⟨i, (hi : i ≤ l.length), hz⟩
      have hz : ∀ k, k < i → 0 ≤ numIdx c (l.getD k o0).box := hz
      (simp -implicitDefEqProofs only [go_sem, Bool.not_eq_true', Bool.not_eq_false', Bool.or_eq_true, Bool.or_eq_false_iff, Bool.and_eq_true, Bool.and_eq_false_iff, decide_eq_true_eq, decide_eq_false_iff_not, Classical.not_not, not_or, maxLen, con33, con50, con13, conNum, con23, con52, con54, con53, con55, con37, hT, hG, hk, hK, Try.results33, conNumO, conNumD]); (try simp (disch := decide +kernel) only [drawn, true_and, and_true])
      obtain ⟨o, ho⟩ : ∃ o, l.getD i o0 = o := ⟨_, rfl⟩
      have eo : l.getD (i : Int).toNat (0, 0, 0, 0, 0, (0, 0, 0), 0, 0) = o := ho
      try simp only [eo]
      (repeat' (with_reducible (first | refine And.intro ?_ ?_ | intro _))) <;> (try (first | with_reducible (first | done | assumption | omega | contradiction) | decide))
      all_goals first
       | (have hq : numIdx c o.2.2.2.2.1 < 0 := by assumption
          have e : applyV c l = ([], 6) := by
           rw [hA, if_pos]
           unfold numsIn
           rw [List.all_eq_false]
           exact ⟨o, by rw [← ho]; exact getD_mem (by omega), by rw [decide_eq_true_eq]; show ¬ 0 ≤ numIdx c o.2.2.2.2.1; omega⟩
          first | (rw [e]; done) | (rw [e]; rfl))
       | (have hq : ¬ numIdx c o.2.2.2.2.1 < 0 := by assumption
          refine fin_lp ⟨i + 1, (by omega), lt_succ' hz (by rw [ho]; show 0 ≤ numIdx c o.2.2.2.2.1; omega)⟩ ?_ (by dsimp only; omega)
          simp only [go_sem]
          try (first | rfl | exact ⟨rfl, rfl⟩ | (and_intros <;> first | trivial | rfl | omega))
          done)
       | (have hni : ∀ o ∈ l, 0 ≤ numIdx c o.box := fun o ho => by
           obtain ⟨k, hk2, rfl⟩ := mem_getD (d := o0) ho
           exact hz k (by omega)
          have hA2 : applyV c l = forceAll (placesV l) (c.map (clrC ((placesV l).map (fun x => x.1.1)))) := by
           rw [hA, if_neg]
           unfold numsIn
           rw [Bool.not_eq_false, List.all_eq_true]
           exact fun o ho => decide_eq_true (hni o ho)
          have hbx : ∀ z ∈ placesV l, z.2.1 = 0 ∨ 0 ≤ numIdx c z.2.1 := fun z hz => by
           rcases placesV_box hz with h | ⟨o, ho, h⟩
           · exact .inl h
           · exact .inr (by rw [← h]; exact hni o ho)
          have hPl := placesV_len l
          generalize hPe : placesV l = P at hA2 hbx hPl ⊢
          obtain ⟨ps, hps⟩ : ∃ ps : List Plt, P.map (fun x => x.1.1) = ps := ⟨_, rfl⟩
          rw [hps] at hA2
          refine evk_loop ⟨{ i : Nat // i ≤ P.length }, 1000, fun q => [(0, .one (.sl yCT c false)), (10, .one (.sl yPM P false)), (11, .one (.loc 70 0)), (46, .one (.sl yPM P false)), (47, .one (.int .i64 P.length)), (48, .one (.int .i64 q.1))], fun q => [(70, .cells 96 [.map 71]), (71, .mapb yPL .unit true true (setX ((P.take q.1).map (fun x => x.1.1))))], fun q => P.length - q.1⟩ ⟨0, Nat.zero_le _⟩ ?_ ?_
          · simp only [go_sem]
            try (first | rfl | exact ⟨rfl, rfl⟩ | (and_intros <;> first | trivial | rfl | omega))
          · rintro ⟨i, (hi : i ≤ P.length)⟩
            (simp -implicitDefEqProofs only [go_sem, Bool.not_eq_true', Bool.not_eq_false', Bool.or_eq_true, Bool.or_eq_false_iff, Bool.and_eq_true, Bool.and_eq_false_iff, decide_eq_true_eq, decide_eq_false_iff_not, Classical.not_not, not_or, maxLen, con33, con50, con13, conNum, con23, con52, con54, con53, con55, con37, hT, hG, hk, hK, Try.results33, conNumO, conNumD]); (try simp (disch := decide +kernel) only [drawn, true_and, and_true])
            obtain ⟨o, ho⟩ : ∃ o, P.getD i pm0 = o := ⟨_, rfl⟩
            have eo : P.getD (i : Int).toNat (((0, 0, 0), 0, 0), 0, []) = o := ho
            try simp only [eo]
            have hsx : i < P.length → setX ((P.take (i + 1)).map (fun x => x.1.1)) = mset (kt := yPL) (setX ((P.take i).map (fun x => x.1.1))) o.1.1 () := fun h => by
             rw [← setX_push, List.take_succ_eq_append_getElem h, List.map_append, ← getD_lt (d := pm0) h, ho]; rfl
            (repeat' (with_reducible (first | refine And.intro ?_ ?_ | intro _))) <;> (try (first | with_reducible (first | done | assumption | omega | contradiction) | decide))
            all_goals first
             | (have e1 := hsx (by omega)
                refine fin_lp ⟨i + 1, by omega⟩ ?_ (by dsimp only; omega)
                simp only [go_sem]
                rw [e1]
                try (first | rfl | exact ⟨rfl, rfl⟩ | (and_intros <;> first | trivial | rfl | omega))
                done)
             | omega
             | (have e4 : P.take i = P := List.take_of_length_le (by omega)
                simp only [e4, hps]
                refine evk_loop ⟨{ i : Nat // i ≤ c.length }, 1000, fun q => [(10, .one (.sl yPM P false)), (11, .one (.loc 70 0)), (14, .one (.row 73)), (61, .one (.int .i64 c.length)), (62, .one (.int .i64 q.1))], fun q => [(70, .cells 96 [.map 71]), (71, .mapb yPL .unit true true (setX ps)), (73, .row 64 yCT ((c.take q.1).map (clrC ps) ++ c.drop q.1))], fun q => c.length - q.1⟩ ⟨0, Nat.zero_le _⟩ ?_ ?_
                · simp only [go_sem]
                  try (first | rfl | exact ⟨rfl, rfl⟩ | (and_intros <;> first | trivial | rfl | omega))
                · rintro ⟨i, (hi : i ≤ c.length)⟩
                  (simp -implicitDefEqProofs only [go_sem, Bool.not_eq_true', Bool.not_eq_false', Bool.or_eq_true, Bool.or_eq_false_iff, Bool.and_eq_true, Bool.and_eq_false_iff, decide_eq_true_eq, decide_eq_false_iff_not, Classical.not_not, not_or, maxLen, con33, con50, con13, conNum, con23, con52, con54, con53, con55, con37, hT, hG, hk, hK, Try.results33, conNumO, conNumD]); (try simp (disch := decide +kernel) only [drawn, true_and, and_true])
                  obtain ⟨o, ho⟩ : ∃ o, c.getD i ct0 = o := ⟨_, rfl⟩
                  have hrl : ((c.take i).map (clrC ps) ++ c.drop i).length = c.length := by simp; omega
                  have hro : i < c.length → ((c.take i).map (clrC ps) ++ c.drop i).getD (i : Int).toNat (0, (ByteArray.empty, 0, ByteArray.empty, 0), 0, 0, 0, 0, 0, []) = o := fun h => by
                   rw [show (i : Int).toNat = i by omega, List.getD_eq_getElem?_getD, List.getElem?_append_right (by simp; omega), List.length_map, List.length_take, show i - min i c.length = 0 by omega, List.getElem?_drop, Nat.add_zero, ← ho, List.getD_eq_getElem?_getD]; rfl
                  have hsx : i < c.length → ((c.take i).map (clrC ps) ++ c.drop i).set (i : Int).toNat (clrC ps o) = (c.take (i + 1)).map (clrC ps) ++ c.drop (i + 1) := fun h => by
                   rw [show (i : Int).toNat = i by omega, List.set_append_right _ _ (by simp; omega), List.length_map, List.length_take, show i - min i c.length = 0 by omega, List.drop_eq_getElem_cons h, List.set_cons_zero, List.take_succ_eq_append_getElem h, List.map_append, ← getD_lt (d := ct0) h, ho]; simp
                  simp only [hrl]
                  refine ⟨fun hlt => ?_, fun hge => ?_⟩
                  · have hro := hro (by omega)
                    have hsx := hsx (by omega)
                    have hop := hcp o (by rw [← ho]; exact getD_mem (by omega))
                    have hop2 : List.length o.2.2.2.2.2.2.2 ≤ 60 := hop
                    have ec : (o.1, o.2.1, o.2.2.1, o.2.2.2.1, o.2.2.2.2.1, o.2.2.2.2.2.1, o.2.2.2.2.2.2.1, List.filter (fun x => !fz (setX ps) x) o.2.2.2.2.2.2.2) = clrC ps o := by
                     unfold clrC setPcs
                     simp only [fz_in]
                    simp only [hro]
                    (repeat' (with_reducible (first | refine And.intro ?_ ?_ | intro _))) <;> (try (first | with_reducible (first | done | assumption | omega | contradiction) | decide))
                    all_goals first
                     | (refine fin_lp ⟨i + 1, by omega⟩ ?_ (by dsimp only; omega)
                        simp only [go_sem]
                        simp only [ec, hsx]
                        try (first | rfl | exact ⟨rfl, rfl⟩ | (and_intros <;> first | trivial | rfl | omega))
                        done)
                     | omega
                     | fail
                  · have e4 : (c.take i).map (clrC ps) ++ c.drop i = c.map (clrC ps) := by
                     rw [List.take_of_length_le (by omega), List.drop_of_length_le (by omega), List.append_nil]
                    simp only [e4]
                    (repeat' (with_reducible (first | refine And.intro ?_ ?_ | intro _))) <;> (try (first | with_reducible (first | done | assumption | omega | contradiction) | decide))
                    all_goals first
                     | omega
                     | (refine evk_loop ⟨{ q : Nat × List Cnt // q.1 ≤ P.length ∧ forceAll (P.drop q.1) q.2 = forceAll P (c.map (clrC ps)) ∧ q.2.map (fun c => c.num) = c.map (fun c => c.num) }, 1000, fun q => [(10, .one (.sl yPM P false)), (14, .one (.row 73)), (78, .one (.sl yPM P false)), (79, .one (.int .i64 P.length)), (80, .one (.int .i64 q.1.1))], fun q => [(73, .row 64 yCT q.1.2)], fun q => P.length - q.1.1⟩ ⟨(0, c.map (clrC ps)), Nat.zero_le _, rfl, by rw [List.map_map]; rfl⟩ ?_ ?_
                        · simp only [go_sem]
                          try (first | rfl | exact ⟨rfl, rfl⟩ | (and_intros <;> first | trivial | rfl | omega))
                        · rintro ⟨⟨j, R⟩, (hj : j ≤ P.length), (hf : forceAll (P.drop j) R = forceAll P (c.map (clrC ps))), (hnm : R.map (fun c => c.num) = c.map (fun c => c.num))⟩
                          (simp -implicitDefEqProofs only [go_sem, Bool.not_eq_true', Bool.not_eq_false', Bool.or_eq_true, Bool.or_eq_false_iff, Bool.and_eq_true, Bool.and_eq_false_iff, decide_eq_true_eq, decide_eq_false_iff_not, Classical.not_not, not_or, maxLen, con33, con50, con13, conNum, con23, con52, con54, con53, con55, con37, hT, hG, hk, hK, Try.results33, conNumO, conNumD]); (try simp (disch := decide +kernel) only [drawn, true_and, and_true])
                          have hRl : R.length = c.length := by have := congrArg List.length hnm; rw [List.length_map, List.length_map] at this; exact this
                          obtain ⟨o, ho⟩ : ∃ o, P.getD j pm0 = o := ⟨_, rfl⟩
                          have eo : P.getD (j : Int).toNat (((0, 0, 0), 0, 0), 0, []) = o := ho
                          have hbo : j < P.length → o.2.1 = 0 ∨ 0 ≤ numIdx R o.2.1 := fun h => by
                           rw [numIdx_nums hnm]; exact hbx o (by rw [← ho]; exact getD_mem h)
                          have hsp : 0 ≤ numIdx R o.2.1 → (numIdx R o.2.1).toNat < R.length := fun h => (idxV_spec (d := ct0) h).1
                          have hdr : j < P.length → P.drop j = o :: P.drop (j + 1) := fun h => by rw [List.drop_eq_getElem_cons h, ← getD_lt (d := pm0) h, ho]
                          simp only [eo]
                          obtain ⟨q, hq⟩ : ∃ q, R.getD (numIdx R o.2.1).toNat ct0 = q := ⟨_, rfl⟩
                          have eq1 : R.getD (numIdx R o.2.1).toNat (0, (ByteArray.empty, 0, ByteArray.empty, 0), 0, 0, 0, 0, 0, []) = q := hq
                          have eO : ((o.1.1.1, o.1.1.2.1, o.1.1.2.2), o.1.2.1, o.1.2.2) = o.1 := rfl
                          have eQ : (q.1, (q.2.1.1, q.2.1.2.1, q.2.1.2.2.1, q.2.1.2.2.2), q.2.2.1, q.2.2.2.1, q.2.2.2.2.1, q.2.2.2.2.2.1, q.2.2.2.2.2.2.1, q.2.2.2.2.2.2.2) = q := rfl
                          try simp only [eq1, eO, eQ]
                          obtain ⟨W, hW⟩ : ∃ W, forceV q o.1 = W := ⟨_, rfl⟩
                          try simp only [hW]
                          have hst : j < P.length → forceAll (P.drop j) R = if o.2.1 = 0 then forceAll (P.drop (j + 1)) R else if W.2 ≠ 0 then ([], W.2) else forceAll (P.drop (j + 1)) (R.set (numIdx R o.2.1).toNat W.1) := fun h => by
                           rw [hdr h, forceAll, hq, hW]
                          (repeat' (with_reducible (first | refine And.intro ?_ ?_ | intro _))) <;> (try (first | with_reducible (first | done | assumption | omega | contradiction) | decide))
                          all_goals first
                           | (have h0 : o.2.1 = 0 := by assumption
                              have hst := hst (by omega)
                              rw [if_pos h0] at hst
                              refine fin_lp ⟨(j + 1, R), (by show j + 1 ≤ P.length; omega), hst.symm.trans hf, hnm⟩ ?_ (by dsimp only; omega)
                              simp only [go_sem]
                              try (first | rfl | exact ⟨rfl, rfl⟩ | (and_intros <;> first | trivial | rfl | omega))
                              done)
                           | (have h0 : ¬ o.2.1 = 0 := by assumption
                              have h5 : W.2 = 0 := by assumption
                              have hst := hst (by omega)
                              rw [if_neg h0, if_neg (by simp [h5])] at hst
                              have hb := (hbo (by omega)).resolve_left h0
                              have hsp := hsp hb
                              refine fin_lp ⟨(j + 1, R.set (numIdx R o.2.1).toNat W.1), (by show j + 1 ≤ P.length; omega), hst.symm.trans hf, ?_⟩ ?_ (by dsimp only; omega)
                              · show (R.set _ _).map _ = _
                                rw [List.map_set, ← hnm]
                                have hWn : W.1.num = q.num := by rw [← hW]; exact forceV_num (by rw [hW]; exact h5)
                                rw [hWn, ← hq]
                                refine List.ext_getElem (by simp) fun k h1 h2 => ?_
                                rw [List.getElem_set]
                                split
                                · rename_i e; subst e; rw [List.getElem_map, getD_lt (d := ct0) hsp]
                                · rfl
                              · simp only [go_sem]
                                try (first | rfl | exact ⟨rfl, rfl⟩ | (and_intros <;> first | trivial | rfl | omega))
                                done)
                           | (have h0 : ¬ o.2.1 = 0 := by assumption
                              have h5 : ¬ W.2 = 0 := by assumption
                              have hst := hst (by omega)
                              rw [if_neg h0, if_pos h5] at hst
                              have e : applyV c l = ([], W.2) := by rw [hA2, ← hf, hst]
                              first | (rw [e]; done) | (rw [e]; rfl))
                           | (have h0 : ¬ o.2.1 = 0 := by assumption
                              have hb := (hbo (by omega)).resolve_left h0
                              have hsp := hsp hb
                              omega)
                           | omega
                           | (have e5 : P.drop j = [] := List.drop_of_length_le (by omega)
                              have e : applyV c l = (R, 0) := by rw [hA2, ← hf, e5]; rfl
                              first | (rw [e]; done) | (rw [e]; rfl))
                           | fail)
                     | fail)
             | fail)
       | fail)
end Go.Proofs.Ythiddcobegnokaa

/- The generator of containers. -/
set_option linter.unusedSimpArgs false
set_option linter.unusedVariables false
set_option maxRecDepth 100000
set_option maxHeartbeats 8000000
namespace Go.Proofs.Ythiddcobegnokaa
open Go.Ev

attribute [local go_sem] List.set_cons_succ List.set_cons_zero List.getD_cons_succ List.getD_cons_zero List.set_nil
/-- What Containers gives. -/
structure CtsR (most n : Int) (l : List Cnt) : Prop where
 ok : CtsOk l
 len : (l.length : Int) ≤ most
 pl : ∀ c ∈ l, ∀ x ∈ c.pcs, ∃ j : Nat, (j : Int) < n ∧ x.1 = platesV j
 fl : ∀ c ∈ l, ∃ j : Nat, j < 3 ∧ c.flt = fltsV j
structure CtA (most k nm : Int) (xs : List Cnt) : Prop where
 len : (xs.length : Int) + k ≤ most
 n0 : 0 ≤ nm
 n1 : nm ≤ 2 * xs.length
 ok : ∀ c ∈ xs, propC c = true ∧ c.pcs = [] ∧ c.num ≤ nm ∧ ∃ j : Nat, j < 3 ∧ c.flt = fltsV j
 num : xs.Pairwise (fun a b => a.num < b.num)
 pos : ∀ i, i < xs.length → (xs.getD i ct0).pos = 0 ∨ (xs.getD i ct0).pos = i + 1
theorem CtA.push {most k nm : Int} {xs : List Cnt} (h : CtA most k nm xs) (hm : most ≤ 24) (hk : 0 < k) {v f c l m p r : Int} (hv : 1 ≤ v ∧ v ≤ 2) (hf : 0 ≤ f ∧ f < 3) (hc : 0 ≤ c ∧ c ≤ 31) (hl : 0 ≤ l ∧ l ≤ 20000) (hmo : 0 ≤ m ∧ m ≤ 60) (hp : p = 0 ∨ p = xs.length + 1) (hr : -50 ≤ r ∧ r ≤ 50) : CtA most (k - 1) (nm + v) (xs ++ [(nm + v, fltsV f, c, l, m, p, r, [])]) := by
 obtain ⟨il, in0, in1, iok, inum, ipos⟩ := h
 refine ⟨by simp; omega, by omega, by simp; omega, fun x hx => ?_, ?_, fun i hi => ?_⟩
 · rcases List.mem_append.1 hx with hx | hx
   · obtain ⟨h1, h2, h3, h4⟩ := iok x hx
     exact ⟨h1, h2, by omega, h4⟩
   · rw [List.mem_singleton.1 hx]
     refine ⟨?_, rfl, Int.le_refl _, f.toNat, by omega, by rw [show ((f.toNat : Nat) : Int) = f by omega]⟩
     unfold propC inV
     simp only [Cnt.num, Cnt.flt, Cnt.cats, Cnt.lim, Cnt.most, Cnt.pos, Cnt.arm, fltsV_ok, Bool.and_eq_true, decide_eq_true_eq, and_true]
     rcases hp with hp | hp <;> subst hp <;> omega
 · rw [List.pairwise_append]
   refine ⟨inum, List.pairwise_singleton _ _, fun x hx y hy => ?_⟩
   rw [List.mem_singleton.1 hy]
   have := (iok x hx).2.2.1
   show x.num < nm + v
   omega
 · by_cases e : i < xs.length
   · have := ipos i e
     rw [List.getD_eq_getElem?_getD, List.getElem?_append_left e, ← List.getD_eq_getElem?_getD]; exact this
   · have e : i = xs.length := by simp at hi; omega
     subst e
     rw [List.getD_eq_getElem?_getD, List.getElem?_append_right (Nat.le_refl _), Nat.sub_self]
     exact hp
structure CtB (i N : Nat) (yss : List (List Pce)) : Prop where
 len : yss.length = N
 c20 : ∀ p ∈ yss, p.length ≤ 20
 ok : ∀ p ∈ yss, PcsOk p
 pl : ∀ p ∈ yss, ∀ x ∈ p, ∃ j : Nat, j < i ∧ x.1 = platesV j
 ap : yss.Pairwise (fun a b => ∀ x ∈ a, ∀ y ∈ b, x.1 ≠ y.1)
theorem CtB.nil (N : Nat) : CtB 0 N (List.replicate N []) := by
 refine ⟨by simp, fun p hp => ?_, fun p hp => ?_, fun p hp => ?_, ?_⟩
 · rw [List.eq_of_mem_replicate hp]; simp
 · rw [List.eq_of_mem_replicate hp]; exact ⟨fun _ h => (by cases h), .nil⟩
 · rw [List.eq_of_mem_replicate hp]; intro x hx; cases hx
 · rw [List.pairwise_replicate]; right; intro x hx; cases hx
theorem CtB.step {i N : Nat} {yss : List (List Pce)} (h : CtB i N yss) : CtB (i + 1) N yss :=
 ⟨h.len, h.c20, h.ok, fun p hp x hx => (h.pl p hp x hx).imp fun j hj => ⟨by omega, hj.2⟩, h.ap⟩
theorem platesV_ne {a b : Nat} (h : a < b) (hb : b < 1000) : platesV a ≠ platesV b := fun e => by
 have := platesV_lt (a := a) (b := b) (by omega) (by omega) (by omega)
 rw [e, (pltC_cmp.eq _ _).2 rfl] at this
 omega
theorem set_getD {α : Type} (l : List α) (k : Nat) (v d : α) (j : Nat) (hj : j < l.length) : (l.set k v).getD j d = if k = j then v else l.getD j d := by
 rw [List.getD_eq_getElem?_getD, List.getD_eq_getElem?_getD, List.getElem?_set]
 split
 · rename_i e; subst e; simp [hj]
 · rfl
theorem CtB.put {i N k : Nat} {yss : List (List Pce)} (h : CtB i N yss) (hi : i < 1000) (hk : k < N) (h20 : (yss.getD k []).length < 20) {w c : Int} (hw : 1 ≤ w ∧ w ≤ 999) (hc : 0 ≤ c ∧ c ≤ 4) : CtB (i + 1) N (yss.set k (yss.getD k [] ++ [(platesV i, w, c)])) := by
 obtain ⟨h1, h2, h3, h4, h5⟩ := h
 have hmem : yss.getD k [] ∈ yss := getD_mem (by omega)
 have key : ∀ p ∈ yss.set k (yss.getD k [] ++ [(platesV i, w, c)]), p ∈ yss ∨ p = yss.getD k [] ++ [(platesV i, w, c)] := fun p hp => by
  rcases List.mem_or_eq_of_mem_set hp with h | h
  · exact .inl h
  · exact .inr h
 refine ⟨by simp [h1], fun p hp => ?_, fun p hp => ?_, fun p hp x hx => ?_, ?_⟩
 · rcases key p hp with h | h
   · exact h2 p h
   · rw [h, List.length_append, List.length_singleton]; omega
 · rcases key p hp with h | h
   · exact h3 p h
   · subst h
     refine ⟨fun x hx => ?_, ?_⟩
     · rcases List.mem_append.1 hx with hx | hx
       · exact (h3 _ hmem).ok x hx
       · rw [List.mem_singleton.1 hx]
         unfold okPc inV
         simp only [platesV_ok, Bool.and_eq_true, decide_eq_true_eq, true_and]
         omega
     · rw [List.pairwise_append]
       refine ⟨(h3 _ hmem).srt, List.pairwise_singleton _ _, fun x hx y hy => ?_⟩
       rw [List.mem_singleton.1 hy]
       obtain ⟨j, hj, e⟩ := h4 _ hmem x hx
       rw [e]
       exact platesV_lt (by omega) (by omega) (by omega)
 · rcases key p hp with h | h
   · exact (h4 p h x hx).imp fun j hj => ⟨by omega, hj.2⟩
   · subst h
     rcases List.mem_append.1 hx with hx | hx
     · exact (h4 _ hmem x hx).imp fun j hj => ⟨by omega, hj.2⟩
     · rw [List.mem_singleton.1 hx]; exact ⟨i, by omega, rfl⟩
 · rw [pw_getD []] at h5 ⊢
   intro a b hab hb x hx y hy
   rw [List.length_set] at hb
   rw [set_getD _ _ _ _ _ (by omega)] at hx hy
   have hA : yss.getD a [] ∈ yss := getD_mem (by omega)
   have hB : yss.getD b [] ∈ yss := getD_mem hb
   by_cases ea : k = a
   · rw [if_pos ea] at hx
     rw [if_neg (by omega)] at hy
     rcases List.mem_append.1 hx with hx | hx
     · rw [ea] at hx; exact h5 a b hab hb x hx y hy
     · rw [List.mem_singleton.1 hx]
       obtain ⟨j, hj, e⟩ := h4 _ hB y hy
       rw [e]; exact (platesV_ne hj hi).symm
   · rw [if_neg ea] at hx
     by_cases eb : k = b
     · rw [if_pos eb] at hy
       rcases List.mem_append.1 hy with hy | hy
       · rw [eb] at hy; exact h5 a b hab hb x hx y hy
       · rw [List.mem_singleton.1 hy]
         obtain ⟨j, hj, e⟩ := h4 _ hA x hx
         rw [e]; exact platesV_ne hj hi
     · rw [if_neg eb] at hy
       exact h5 a b hab hb x hx y hy
theorem zipS_len {xs : List Cnt} {yss : List (List Pce)} (h : yss.length = xs.length) : ((xs.zip yss).map (fun q => setPcs q.1 q.2)).length = xs.length := by simp [h]
theorem zipS_getD {xs : List Cnt} {yss : List (List Pce)} (h : yss.length = xs.length) {i : Nat} (hi : i < xs.length) : ((xs.zip yss).map (fun q => setPcs q.1 q.2)).getD i ct0 = setPcs (xs.getD i ct0) (yss.getD i []) := by
 simp [List.getD_eq_getElem?_getD, hi, h]
theorem CtsR.mk' {most n nm k : Int} {i : Nat} {xs : List Cnt} {yss : List (List Pce)} (hA : CtA most k nm xs) (hk : 0 ≤ k) (hm : most ≤ 24) (hB : CtB i xs.length yss) (hi : (i : Int) ≤ n ∨ i = 0) : CtsR most n ((xs.zip yss).map (fun q => setPcs q.1 q.2)) := by
 obtain ⟨il, in0, in1, iok, inum, ipos⟩ := hA
 obtain ⟨h1, h2, h3, h4, h5⟩ := hB
 have hl := zipS_len h1
 have hg : ∀ c ∈ (xs.zip yss).map (fun q => setPcs q.1 q.2), ∃ x ∈ xs, ∃ p ∈ yss, c = setPcs x p := fun c hc => by
  obtain ⟨q, hq, rfl⟩ := List.mem_map.1 hc
  exact ⟨q.1, (List.of_mem_zip (a := q.1) (b := q.2) hq).1, q.2, (List.of_mem_zip (a := q.1) (b := q.2) hq).2, rfl⟩
 refine ⟨⟨by omega, fun c hc => ?_, (pw_getD ct0).2 fun a b hab hb => ?_, (pw_getD ct0).2 fun a b hab hb => ?_, (pw_getD ct0).2 fun a b hab hb => ?_⟩, by omega, fun c hc x hx => ?_, fun c hc => ?_⟩
 · obtain ⟨x, hx, p, hp, rfl⟩ := hg c hc
   exact ⟨(iok x hx).1, Nat.le_trans (h2 p hp) (by omega), h3 p hp⟩
 · rw [hl] at hb
   rw [zipS_getD (i := a) h1 (by omega), zipS_getD (i := b) h1 hb]
   exact (pw_getD ct0).1 inum a b hab hb
 · rw [hl] at hb
   rw [zipS_getD (i := a) h1 (by omega), zipS_getD (i := b) h1 hb]
   intro hp he
   have hp : (xs.getD b ct0).pos ≠ 0 := hp
   have he : (xs.getD a ct0).pos = (xs.getD b ct0).pos := he
   have := ipos a (by omega)
   have := ipos b hb
   omega
 · rw [hl] at hb
   rw [zipS_getD (i := a) h1 (by omega), zipS_getD (i := b) h1 hb]
   exact (pw_getD []).1 h5 a b hab (by omega)
 · obtain ⟨x0, hx0, p, hp, rfl⟩ := hg c hc
   obtain ⟨j, hj, e⟩ := h4 p hp x hx
   exact ⟨j, by omega, e⟩
 · obtain ⟨x0, hx0, p, hp, rfl⟩ := hg c hc
   exact (iok x0 hx0).2.2.2
end Go.Proofs.Ythiddcobegnokaa

/- The generators of empty containers and of spoilt ones. -/
set_option linter.unusedSimpArgs false
set_option linter.unusedVariables false
set_option maxRecDepth 100000
set_option maxHeartbeats 8000000
namespace Go.Proofs.Ythiddcobegnokaa
open Go.Ev

attribute [local go_sem] List.set_cons_succ List.set_cons_zero List.getD_cons_succ List.getD_cons_zero List.set_nil
def empC (i j : Nat) : Cnt := ((i : Int) + 1, fltsV j, 31, 500, 20, (i : Int) + 1, 0, [])
/-- What Empties gives. -/
structure EmpR (most : Int) (l : List Cnt) : Prop where
 len : (l.length : Int) ≤ most
 at_ : ∀ i, i < l.length → ∃ j : Nat, j < 3 ∧ l.getD i ct0 = empC i j
theorem EmpR.ok {most : Int} {l : List Cnt} (h : EmpR most l) (hm : most ≤ 24) : CtsOk l := by
 have hl := h.len
 have hp : ∀ i j : Nat, i < 24 → propC (empC i j) = true := fun i j hi => by
  unfold propC inV empC
  simp only [Cnt.num, Cnt.flt, Cnt.cats, Cnt.lim, Cnt.most, Cnt.pos, Cnt.arm, fltsV_ok, Bool.and_eq_true, decide_eq_true_eq, and_true]
  omega
 refine ⟨by omega, fun c hc => ?_, (pw_getD ct0).2 fun a b hab hb => ?_, (pw_getD ct0).2 fun a b hab hb => ?_, (pw_getD ct0).2 fun a b hab hb => ?_⟩
 · obtain ⟨i, hi, rfl⟩ := getD_ct hc
   obtain ⟨j, _, e⟩ := h.at_ i hi
   rw [e]
   exact ⟨hp i j (by omega), (by show (0 : Nat) ≤ 60; omega), fun x hx => (by cases hx), .nil⟩
 · obtain ⟨j, _, e⟩ := h.at_ a (by omega)
   obtain ⟨k, _, e2⟩ := h.at_ b hb
   rw [e, e2]; show ((a : Int) + 1) < (b : Int) + 1; omega
 · obtain ⟨j, _, e⟩ := h.at_ a (by omega)
   obtain ⟨k, _, e2⟩ := h.at_ b hb
   rw [e, e2]; intro _ hq
   have hq : (a : Int) + 1 = (b : Int) + 1 := hq
   omega
 · obtain ⟨j, _, e⟩ := h.at_ a (by omega)
   rw [e]; intro x hx; cases hx
def con31 : RCon := { ps := [.p 74 ySR, .d false (.int .i64)], rs := [.o 64 yCT], pre := fun (x : Src × Int × Unit) => 0 ≤ x.1.2 ∧ 0 ≤ x.2.1 ∧ x.2.1 ≤ 24, rel := fun (x : Src × Int × Unit) (y : List Cnt × Unit) (z : Src × Int × Unit) => 0 ≤ z.1.2 ∧ EmpR x.2.1 y.1 }
theorem c31 : RCtrOk Try.prog 31 con31.rctr :=
 rcon_sound (G := ⟨[(39, con39.ctr), (32, con32.ctr)], [], [], []⟩) tab_ok (EnvOk.cons c39 has39 (EnvOk.cons c32 has32 EnvOk.nil)) rfl Try.func31 rfl con31 4211 (by kernel_rfl) (by decide) (by decide) rfl (by decide) rfl (by
  rintro ⟨⟨(s : List Int), (a : Int)⟩, (most : Int), _⟩ hpre hwf X hT hG hk hK
  (simp -implicitDefEqProofs only [go_sem, Bool.not_eq_true', Bool.not_eq_false', Bool.or_eq_true, Bool.or_eq_false_iff, Bool.and_eq_true, Bool.and_eq_false_iff, decide_eq_true_eq, decide_eq_false_iff_not, Classical.not_not, not_or, maxLen, con31, con39, con32, hT, hG, hk, hK, Try.results31] at hwf ⊢); (try simp (disch := decide +kernel) only [drawn, true_and, and_true])
  obtain ⟨h1, h2, h3⟩ : 0 ≤ a ∧ 0 ≤ most ∧ most ≤ 24 := hpre
  have hs1 : 0 ≤ (Src.step (s, a)).snd := step_pos h1
  have hkb := goMod_bd (Src.raw (s, a)) (most + 1) (by omega)
  generalize goMod (Src.raw (s, a)) (most + 1) = K at hkb ⊢
  generalize Src.step (s, a) = S1 at hs1 ⊢
  obtain ⟨s1, a1⟩ := S1
  (repeat' (with_reducible (first | refine And.intro ?_ ?_ | intro _))) <;> (try (first | with_reducible (first | done | assumption | omega | contradiction) | decide))
  refine evk_loop ⟨{ q : Src × List Cnt × Int // 0 ≤ q.1.2 ∧ EmpR (most - q.2.2) q.2.1 ∧ 0 ≤ q.2.2 }, 1000, fun q => [(0, .one (.loc 0 0)), (5, .one (.row 64)), (6, .one (.int .i64 q.1.2.2))],
   fun q => [(0, .cells 74 [.sl (.int .i64) q.1.1.1 false, .int .i64 q.1.1.2]), (64, .row 64 yCT q.1.2.1)], fun q => q.1.2.2.toNat⟩ ⟨((s1, a1), [], K), hs1, ⟨by simp; omega, fun i hi => (by simp at hi)⟩, hkb.1⟩ ?_ ?_
  · simp only [go_sem]
    try (first | rfl | exact ⟨rfl, rfl⟩ | (and_intros <;> first | trivial | rfl | omega))
  · rintro ⟨⟨⟨s, a⟩, l, k⟩, (h1 : 0 ≤ a), (hI : EmpR (most - k) l), (hk0 : 0 ≤ k)⟩
    (simp -implicitDefEqProofs only [go_sem, Bool.not_eq_true', Bool.not_eq_false', Bool.or_eq_true, Bool.or_eq_false_iff, Bool.and_eq_true, Bool.and_eq_false_iff, decide_eq_true_eq, decide_eq_false_iff_not, Classical.not_not, not_or, maxLen, con31, con39, con32, hT, hG, hk, hK, Try.results31]); (try simp (disch := decide +kernel) only [drawn, true_and, and_true])
    have hl := hI.len
    have p1 : 0 ≤ (Src.step (s, a)).snd := step_pos h1
    have r1 := goMod_bd (Src.raw (s, a)) 3 (by omega)
    generalize Src.step (s, a) = S1 at p1 ⊢
    obtain ⟨s1, a1⟩ := S1
    obtain ⟨j, hj⟩ : ∃ j : Nat, goMod (Src.raw (s, a)) 3 = j := ⟨(goMod (Src.raw (s, a)) 3).toNat, by omega⟩
    rw [hj] at r1 ⊢
    (repeat' (with_reducible (first | refine And.intro ?_ ?_ | intro _))) <;> (try (first | with_reducible (first | done | assumption | omega | contradiction) | decide))
    all_goals first
     | (refine fin_lp ⟨((s1, a1), l ++ [empC l.length j], k - 1), p1, ⟨?_, fun i hi => ?_⟩, (by show 0 ≤ k - 1; omega)⟩ ?_ (by dsimp only; omega)
        · rw [List.length_append, List.length_singleton]; dsimp only; omega
        · rw [List.length_append, List.length_singleton] at hi
          by_cases e : i < l.length
          · rw [List.getD_eq_getElem?_getD, List.getElem?_append_left e, ← List.getD_eq_getElem?_getD]; exact hI.at_ i e
          · have e : i = l.length := by omega
            subst e
            rw [List.getD_eq_getElem?_getD, List.getElem?_append_right (Nat.le_refl _), Nat.sub_self]
            exact ⟨j, by omega, rfl⟩
        · simp only [go_sem]
          try (first | rfl | exact ⟨rfl, rfl⟩ | (and_intros <;> first | trivial | rfl | omega))
          done)
     | exact ⟨(l, ()), ((s, a), most, ()), ⟨h1, ⟨(by show (l.length : Int) ≤ most; omega), hI.at_⟩⟩, rfl, rfl, rfl⟩
     | fail)
end Go.Proofs.Ythiddcobegnokaa
