/- A part. -/
import Derived.Test.YtomdgacmoeohnaaGreatSeKOToKD
set_option maxRecDepth 100000
set_option maxHeartbeats 8000000
namespace Go.Proofs.YtomdgacmoeohnaaGreat
open Go.Ev
abbrev Plc := Pce × Int × List Int
def o0 : Opn := (0, 0, 0, 0, 0, (0, 0, 0), 0, 0)
def con64 : Con := { ps := [.d true yOP], rs := [.d false .bool], pre := fun _ => True, out := fun (x : Opn × Unit) => (okOp x.1, ()), nw := id }
theorem c64 : CtrOk Tryz.prog 64 con64.ctr :=
 con_sound (G := ⟨[(90, con90.ctr)], [], [], [], []⟩) tab_ok (EnvOk.cons c90 has90 EnvOk.nil) rfl Tryz.func64 rfl con64 7 (by kernel_rfl) (by decide) (by decide) rfl (by decide) rfl (by
  rintro ⟨⟨(a : Int), (b : Int), (c : Int), (d : Int), (e : Int), ⟨(f1 : Int), (f2 : Int), (f3 : Int)⟩, (f4 : Int), (f5 : Int)⟩, _⟩ hpre hwf X hT hG hk hK
  (simp -implicitDefEqProofs only [go_sem, bP, con64, con90, hT, hG, hk, hK, Tryz.results64] at hwf ⊢)
  unfold okOp inV
  dsimp only
  refine ⟨fun h => ⟨h, fun h2 => ⟨h, h2⟩⟩, ?_⟩
  generalize okPc ((f1, f2, f3), f4, f5) = q
  rw [Bool.eq_iff_iff]
  cases q <;> simp only [Bool.and_eq_true, Bool.or_eq_true, decide_eq_true_eq, Bool.false_eq_true, and_false, and_true] <;> (try omega))
def bfV (a b : Opn) : Bool := decide (a.1 < b.1 ∨ a.1 = b.1 ∧ (a.2.1 < b.2.1 ∨ a.2.1 = b.2.1 ∧ a.2.2.1 < b.2.2.1))
def con65 : Con := { ps := [.d true yOP, .d true yOP], rs := [.d false .bool], pre := fun _ => True, out := fun (x : Opn × Opn × Unit) => (bfV x.1 x.2.1, ()), nw := id }
theorem c65 : CtrOk Tryz.prog 65 con65.ctr :=
 con_sound (G := ⟨[], [], [], [], []⟩) tab_ok EnvOk.nil rfl Tryz.func65 rfl con65 524831 (by kernel_rfl) (by decide) (by decide) rfl (by decide) rfl (by
  rintro ⟨⟨(a : Int), (b : Int), (c : Int), (d : Int), (e : Int), ⟨(f1 : Int), (f2 : Int), (f3 : Int)⟩, (f4 : Int), (f5 : Int)⟩, ⟨(a' : Int), (b' : Int), (c' : Int), (d' : Int), (e' : Int), ⟨(f1' : Int), (f2' : Int), (f3' : Int)⟩, (f4' : Int), (f5' : Int)⟩, _⟩ hpre hwf X hT hG hk hK
  (simp -implicitDefEqProofs only [go_sem, bP, con65, hT, hG, hk, hK, Tryz.results65] at hwf ⊢)
  unfold bfV
  (repeat' with_reducible first | refine And.intro ?_ ?_ | intro _) <;> try first | with_reducible (first | assumption | omega | contradiction) | decide
  all_goals (dsimp only; rw [decide_eq_decide]; omega))
def stepErr (l : List Opn) (i : Nat) : Int :=
 if okOp (l.getD i o0) = false then 1 else if 0 < i ∧ bfV (l.getD (i - 1) o0) (l.getD i o0) = false then 9
 else if ∃ k, k < i ∧ (l.getD k o0).2.1 = (l.getD i o0).2.1 ∧ (l.getD i o0).2.2.1 ≤ (l.getD k o0).2.2.1 then 5 else 0
def valV (l : List Opn) : Int := if 360 < l.length then 2 else (((List.range l.length).map (stepErr l)).find? (fun e => decide (e ≠ 0))).getD 0
theorem valV_err {l : List Opn} {i : Nat} (hl : ¬ 360 < l.length) (h : ∀ k, k < i → stepErr l k = 0) (hi : i < l.length) (he : stepErr l i ≠ 0) : valV l = stepErr l i := by
 unfold valV
 rw [if_neg hl]
 have e0 : List.range l.length = List.range i ++ (i :: (List.range l.length).drop (i + 1)) :=
  (List.take_append_drop i (List.range l.length)).symm.trans (by rw [List.take_range, Nat.min_eq_left (by omega), List.drop_eq_getElem_cons (i := i) (by simpa using hi), List.getElem_range])
 obtain ⟨D, hD⟩ : ∃ D, (List.range l.length).drop (i + 1) = D := ⟨_, rfl⟩
 rw [hD] at e0
 have e : (List.range l.length).map (stepErr l) = (List.range i).map (stepErr l) ++ (stepErr l i :: D.map (stepErr l)) := by
  rw [e0, List.map_append, List.map_cons]
 rw [e, List.find?_append]
 have e2 : ((List.range i).map (stepErr l)).find? (fun e => decide (e ≠ 0)) = none := by
  rw [List.find?_eq_none]
  intro x hx
  obtain ⟨k, hk, rfl⟩ := List.mem_map.1 hx
  rw [h k (List.mem_range.1 hk)]
  simp
 rw [e2]
 simp [he]
theorem valV_ok {l : List Opn} (hl : ¬ 360 < l.length) (h : ∀ k, k < l.length → stepErr l k = 0) : valV l = 0 := by
 unfold valV
 rw [if_neg hl]
 have e2 : ((List.range l.length).map (stepErr l)).find? (fun e => decide (e ≠ 0)) = none := by
  rw [List.find?_eq_none]
  intro x hx
  obtain ⟨k, hk, rfl⟩ := List.mem_map.1 hx
  rw [h k (List.mem_range.1 hk)]
  simp
 rw [e2]; rfl
theorem okOp_bd {o : Opn} (h : okOp o = true) : (0 ≤ o.1 ∧ o.1 ≤ 1048576) ∧ (1 ≤ o.2.1 ∧ o.2.1 ≤ 6) ∧ (1 ≤ o.2.2.1 ∧ o.2.2.1 ≤ 1048576) := by
 unfold okOp inV at h
 simp only [Bool.and_eq_true, decide_eq_true_eq] at h
 omega
theorem stepErr_1 {l : List Opn} {i : Nat} (h : okOp (l.getD i o0) = false) : stepErr l i = 1 := by unfold stepErr; rw [if_pos h]
theorem stepErr_9 {l : List Opn} {i : Nat} (h : okOp (l.getD i o0) = true) (hi : 0 < i) (hb : bfV (l.getD (i - 1) o0) (l.getD i o0) = false) : stepErr l i = 9 := by
 unfold stepErr; rw [if_neg (by rw [h]; exact fun q => by cases q), if_pos ⟨hi, hb⟩]
theorem stepErr_5 {l : List Opn} {i : Nat} (h : okOp (l.getD i o0) = true) (hb : 0 < i → bfV (l.getD (i - 1) o0) (l.getD i o0) = true) (he : ∃ k, k < i ∧ (l.getD k o0).2.1 = (l.getD i o0).2.1 ∧ (l.getD i o0).2.2.1 ≤ (l.getD k o0).2.2.1) : stepErr l i = 5 := by
 unfold stepErr; rw [if_neg (by rw [h]; exact fun q => by cases q), if_neg (fun q => by rw [hb q.1] at q; cases q.2), if_pos he]
theorem stepErr_0 {l : List Opn} {i : Nat} (h : okOp (l.getD i o0) = true) (hb : 0 < i → bfV (l.getD (i - 1) o0) (l.getD i o0) = true) (he : ¬ ∃ k, k < i ∧ (l.getD k o0).2.1 = (l.getD i o0).2.1 ∧ (l.getD i o0).2.2.1 ≤ (l.getD k o0).2.2.1) : stepErr l i = 0 := by
 unfold stepErr; rw [if_neg (by rw [h]; exact fun q => by cases q), if_neg (fun q => by rw [hb q.1] at q; cases q.2), if_neg he]
def con28 : Con := { ps := [.d false (.sl yOP)], rs := [.d false (.int .i64)], pre := fun _ => True, out := fun (x : List Opn × Unit) => (valV x.1, ()), nw := id }
theorem c28 : CtrOk Tryz.prog 28 con28.ctr :=
 con_sound (G := ⟨[(65, con65.ctr), (64, con64.ctr)], [], [], [], []⟩) tab_ok (EnvOk.cons c65 has65 (EnvOk.cons c64 has64 EnvOk.nil)) rfl Tryz.func28 rfl con28 9223372191474124957 (by kernel_rfl) (by decide) (by decide) rfl (by decide) rfl (by
  rintro ⟨(l : List Opn), _⟩ hpre hwf X hT hG hk hK
  (simp -implicitDefEqProofs only [go_sem, bP, con28, con65, con64, hT, hG, hk, hK, Tryz.results28] at hwf ⊢); (try simp (disch := decide +kernel) only [drawn, true_and, and_true])
  refine fun _ => ⟨fun h => ?_, fun h => ?_⟩
  · unfold valV; rw [if_pos (by omega)]
  · have hl : ¬ 360 < l.length := by omega
    refine evk_loop ⟨{ i : Nat // i ≤ l.length ∧ ∀ k, k < i → stepErr l k = 0 }, 1000, fun i => [(0, .one (.sl yOP l false)), (2, .one (.int .i64 0)), (3, .one (.int .i64 i.1))], fun i => [], fun i => l.length - i.1⟩ ⟨0, by omega, fun k hk => by omega⟩ ?_ ?_
    · simp only [go_sem]
      rfl
    · rintro ⟨i, (hi : i ≤ l.length), (hz : ∀ k, k < i → stepErr l k = 0)⟩
      have he := valV_err (i := i) hl hz
      (simp -implicitDefEqProofs only [go_sem, bP, con28, con65, con64, hT, hG, hk, hK, Tryz.results28]); (try simp (disch := decide +kernel) only [drawn, true_and, and_true])
      obtain ⟨o, ho⟩ : ∃ o, l.getD i o0 = o := ⟨_, rfl⟩
      obtain ⟨p, hp⟩ : ∃ p, l.getD (i - 1) o0 = p := ⟨_, rfl⟩
      have eo : l.getD (i : Int).toNat (0, 0, 0, 0, 0, (0, 0, 0), 0, 0) = o := ho
      have ep : l.getD ((i : Int) - 1).toNat (0, 0, 0, 0, 0, (0, 0, 0), 0, 0) = p := by rw [show ((i : Int) - 1).toNat = i - 1 by omega]; exact hp
      rw [eo, ep]
      refine fun _ => ⟨fun hlt => ⟨⟨by omega, by omega⟩, fun _ _ => ⟨fun h1 => ?_, fun h1 => ?_⟩⟩, fun hge => ?_⟩
      · have hs : stepErr l i = 1 := stepErr_1 (ho ▸ h1)
        rw [he (by omega) (by omega), hs]
      · have hbd := okOp_bd h1
        refine ⟨fun _ => ⟨by omega, by omega⟩, fun _ => ⟨by omega, by omega⟩, fun _ _ => ⟨fun _ => ⟨by omega, by omega⟩, fun _ _ => ⟨fun hb => ?_, fun hb => ?_⟩⟩⟩
        · have hs : stepErr l i = 9 := stepErr_9 (ho ▸ h1) (by omega) (by rw [hp, ho]; exact hb.2)
          rw [he (by omega) (by omega), hs]
        · have hb' : 0 < i → bfV (l.getD (i - 1) o0) (l.getD i o0) = true := fun hi0 => by
           rw [hp, ho]
           rcases hb with hb | hb
           · omega
           · exact hb
          refine evk_loop ⟨{ k : Nat // k ≤ i ∧ ∀ q, q < k → ¬ ((l.getD q o0).2.1 = o.2.1 ∧ o.2.2.1 ≤ (l.getD q o0).2.2.1) }, 2000, fun k => [(0, .one (.sl yOP l false)), (2, .one (.int .i64 0)), (3, .one (.int .i64 i)), (4, .one (.int .i64 k.1))], fun k => [], fun k => i - k.1⟩ ⟨0, by omega, fun k hk => by omega⟩ ?_ ?_
          · simp only [go_sem]
            rfl
          · rintro ⟨k, (hki : k ≤ i), (hkz : ∀ q, q < k → ¬ ((l.getD q o0).2.1 = o.2.1 ∧ o.2.2.1 ≤ (l.getD q o0).2.2.1))⟩
            (simp -implicitDefEqProofs only [go_sem, bP, con28, con65, con64, hT, hG, hk, hK, Tryz.results28]); (try simp (disch := decide +kernel) only [drawn, true_and, and_true])
            obtain ⟨u, hu⟩ : ∃ u, l.getD k o0 = u := ⟨_, rfl⟩
            have eu : l.getD (k : Int).toNat (0, 0, 0, 0, 0, (0, 0, 0), 0, 0) = u := hu
            rw [eo, eu]
            (repeat' with_reducible first | refine And.intro ?_ ?_ | intro _) <;> try first | with_reducible (first | assumption | omega | contradiction) | decide
            · have hc : u.2.1 = o.2.1 ∧ o.2.2.1 ≤ u.2.2.1 := by assumption
              have hs : stepErr l i = 5 := stepErr_5 (ho ▸ h1) hb' ⟨k, by omega, by rw [hu, ho]; exact hc⟩
              rw [he (by omega) (by omega), hs]
            · have hc : ¬ u.2.1 = o.2.1 ∨ ¬ o.2.2.1 ≤ u.2.2.1 := by assumption
              refine fin_lp ⟨k + 1, by omega, fun q hq => ?_⟩ ?_ (by dsimp only; omega)
              · by_cases e : q = k
                · subst e; rw [hu]; exact fun hh => hc.elim (fun x => x hh.1) (fun x => x hh.2)
                · exact hkz q (by omega)
              · simp only [go_sem]
                and_intros <;> first | rfl | omega
            · have hs : stepErr l i = 0 := stepErr_0 (ho ▸ h1) hb' (by rw [ho]; exact fun ⟨q, hq, hh⟩ => hkz q (by omega) hh)
              refine fin_lp ⟨i + 1, by omega, fun q hq => ?_⟩ ?_ (by dsimp only; omega)
              · by_cases e : q = i
                · subst e; exact hs
                · exact hz q (by omega)
              · simp only [go_sem]
                and_intros <;> first | rfl | omega
      · rw [valV_ok hl (fun k hk => hz k (by omega))])
end Go.Proofs.YtomdgacmoeohnaaGreat

/- A part. -/
set_option maxRecDepth 100000
set_option maxHeartbeats 8000000
namespace Go.Proofs.YtomdgacmoeohnaaGreat
open Go.Ev
instance decPce : DecidableEq Pce := instDecidableEqProd
instance dec1 : DecidableEq (Int × Pce) := instDecidableEqProd
instance dec2 : DecidableEq (Int × Int × Pce) := instDecidableEqProd
instance dec3 : DecidableEq (Int × Int × Int × Pce) := instDecidableEqProd
instance dec4 : DecidableEq (Int × Int × Int × Int × Pce) := instDecidableEqProd
instance decOpn : DecidableEq Opn := instDecidableEqProd
def mg : List Opn → List Opn → List Opn
 | [], b => b
 | a, [] => a
 | x :: a, y :: b => if x = y then mg (x :: a) b else if bfV y x = true then y :: mg (x :: a) b else x :: mg a (y :: b)
termination_by a b => a.length + b.length
def dupBm (a b : List Opn) : Bool := decide (∃ x ∈ a, ∃ y ∈ b, x.2.1 = y.2.1 ∧ x.2.2.1 = y.2.2.1 ∧ x ≠ y)
theorem valV_zero {l : List Opn} (h : valV l = 0) : l.length ≤ 360 ∧ ∀ k, k < l.length → stepErr l k = 0 := by
 have hl : ¬ 360 < l.length := fun q => by unfold valV at h; rw [if_pos q] at h; cases h
 refine ⟨by omega, fun k => ?_⟩
 induction k using Nat.strongRecOn with
 | _ k ih =>
   intro hk
   by_cases e : stepErr l k = 0
   · exact e
   · rw [← valV_err hl (fun j hj => ih j hj (by omega)) hk e]; exact h
end Go.Proofs.YtomdgacmoeohnaaGreat

/- A part. -/
set_option maxRecDepth 100000
set_option maxHeartbeats 8000000
namespace Go.Proofs.YtomdgacmoeohnaaGreat
open Go.Ev
def aboutP (l : List Opn) (p : Plt) : List Opn := l.filter (fun o => decide (o.plate = p))
theorem about_len (l : List Opn) (p : Plt) : (aboutP l p).length ≤ l.length := List.length_filter_le _ _
theorem sorted_unique : ∀ {a b : List Int}, a.Perm b → a.Pairwise (· ≤ ·) → b.Pairwise (· ≤ ·) → a = b
 | [], b, hp, _, _ => (List.nil_perm.1 hp).symm ▸ rfl
 | x :: a, [], hp, _, _ => by have := hp.length_eq; simp at this
 | x :: a, y :: b, hp, ha, hb => by
   rw [List.pairwise_cons] at ha hb
   have e : x = y := by
    have h1 : x ∈ y :: b := hp.subset (List.mem_cons_self ..)
    have h2 : y ∈ x :: a := hp.symm.subset (List.mem_cons_self ..)
    rcases List.mem_cons.1 h1 with h | h
    · exact h
    · rcases List.mem_cons.1 h2 with k | k
      · exact k.symm
      · have := hb.1 x h
        have := ha.1 y k
        omega
   subst e
   rw [sorted_unique (List.Perm.cons_inv hp) ha.2 hb.2]
theorem sortI_perm (l : List Int) : (sortI l).Perm l := List.mergeSort_perm l _
theorem sortI_sorted (l : List Int) : (sortI l).Pairwise (· ≤ ·) := by
 have h := List.pairwise_mergeSort (le := fun x y : Int => decide (x ≤ y)) (fun a b c => by simp; omega) (fun a b => by simp; omega) l
 exact h.imp (fun h => by simpa using h)
def Rl (a b : Opn) : Prop := bfV a b = true ∧ (a.2.1 = b.2.1 → a.2.2.1 < b.2.2.1)
structure OkL (l : List Opn) : Prop where
 ok : ∀ o ∈ l, okOp o = true
 pw : l.Pairwise Rl
theorem getD_at {l : List Opn} {i : Nat} (h : i < l.length) : l.getD i o0 = l[i] := by simp [h]
structure Gn (l : List Opn) (t : Int) (sq : List Int) : Prop where
 ok : ∀ o ∈ l, okOp o = true
 tm : ∀ o ∈ l, o.1 ≤ t
 dv : ∀ o ∈ l, 1 ≤ o.2.1 ∧ o.2.1 ≤ 4
 sn : ∀ o ∈ l, o.2.2.1 ≤ sq.getD o.2.1.toNat 0
 pw : l.Pairwise Rl
theorem Gn.nil (t : Int) (sq : List Int) : Gn [] t sq := ⟨fun _ h => (by cases h), fun _ h => (by cases h), fun _ h => (by cases h), fun _ h => (by cases h), List.Pairwise.nil⟩
theorem Gn.okl {l : List Opn} {t : Int} {sq : List Int} (h : Gn l t sq) : OkL l := ⟨h.ok, h.pw⟩
theorem set_at {sq : List Int} {i : Nat} {x : Int} (h : i < sq.length) (j : Nat) : (sq.set i x).getD j 0 = if i = j then x else sq.getD j 0 := by
 rw [List.getD_eq_getElem?_getD, List.getElem?_set]
 by_cases e : i = j
 · subst e; simp [h]
 · simp [e, List.getD_eq_getElem?_getD]
theorem Gn.ins {l : List Opn} {t : Int} {sq : List Int} (h : Gn l t sq) {o : Opn} {i : Nat} (ho : okOp o = true) (hd : 1 ≤ o.2.1 ∧ o.2.1 ≤ 4) (ht : t ≤ o.1) (hq : sq.length = 5) (hs : sq.getD o.2.1.toNat 0 < o.2.2.1) (hi : i ≤ l.length)
 (aft : ∀ z ∈ l.drop i, z.1 = o.1 ∧ o.2.1 < z.2.1) (bef : 0 < i → ¬ ((l.getD (i - 1) o0).1 = o.1 ∧ o.2.1 < (l.getD (i - 1) o0).2.1)) : Gn (l.take i ++ o :: l.drop i) o.1 (sq.set o.2.1.toNat o.2.2.1) := by
 have hm : ∀ z, z ∈ l.take i ++ o :: l.drop i → z = o ∨ z ∈ l := fun z hz => by
  rcases List.mem_append.1 hz with k | k
  · exact .inr (List.mem_of_mem_take k)
  · rcases List.mem_cons.1 k with k | k
    · exact .inl k
    · exact .inr (List.mem_of_mem_drop k)
 refine ⟨fun z hz => ?_, fun z hz => ?_, fun z hz => ?_, fun z hz => ?_, ?_⟩
 · rcases hm z hz with rfl | k
   · exact ho
   · exact h.ok z k
 · rcases hm z hz with rfl | k
   · exact Int.le_refl _
   · exact Int.le_trans (h.tm z k) ht
 · rcases hm z hz with rfl | k
   · exact hd
   · exact h.dv z k
 · rw [set_at (by omega)]
   rcases hm z hz with rfl | k
   · rw [if_pos rfl]; exact Int.le_refl _
   · have h1 := h.sn z k
     have h2 := h.dv z k
     split
     · rename_i e
       have e2 : z.2.1 = o.2.1 := by omega
       rw [e2] at h1; omega
     · exact h1
 · have hp : (l.take i ++ l.drop i).Pairwise Rl := by rw [List.take_append_drop]; exact h.pw
   rw [List.pairwise_append] at hp
   refine List.pairwise_append.2 ⟨hp.1, List.pairwise_cons.2 ⟨fun z hz => ?_, hp.2.1⟩, fun x hx z hz => ?_⟩
   · obtain ⟨a1, a2⟩ := aft z hz
     refine ⟨?_, fun q => by omega⟩
     unfold bfV; rw [decide_eq_true_eq]; omega
   · rcases List.mem_cons.1 hz with rfl | hz
     · have hx' := List.mem_of_mem_take hx
       have hs1 := h.sn x hx'
       have hd1 := h.dv x hx'
       have ht1 := h.tm x hx'
       obtain ⟨j, hj, rfl⟩ := List.getElem_of_mem hx
       have hj2 : j < i := by simp at hj; omega
       have hjl : j < l.length := by omega
       rw [List.getElem_take] at *
       have hb := bef (by omega)
       rw [getD_at (by omega : i - 1 < l.length)] at hb
       have hlast := h.tm _ (List.getElem_mem (by omega : i - 1 < l.length))
       have hseq : (l[j]).2.1 = z.2.1 → (l[j]).2.2.1 < z.2.2.1 := fun e => by rw [e] at hs1; omega
       refine ⟨?_, hseq⟩
       unfold bfV; rw [decide_eq_true_eq]
       by_cases e1 : (l[j]).1 < z.1
       · exact .inl e1
       · refine .inr ⟨by omega, ?_⟩
         have hle : (l[j]).2.1 ≤ z.2.1 := by
          by_cases e2 : j = i - 1
          · subst e2; omega
          · have hr := (List.pairwise_iff_getElem.1 h.pw j (i - 1) hjl (by omega) (by omega)).1
            unfold bfV at hr; rw [decide_eq_true_eq] at hr
            omega
         by_cases e3 : (l[j]).2.1 < z.2.1
         · exact .inl e3
         · have e4 : (l[j]).2.1 = z.2.1 := by omega
           exact .inr ⟨e4, hseq e4⟩
     · exact hp.2.2 x hx z hz
end Go.Proofs.YtomdgacmoeohnaaGreat

/- A part. -/
set_option maxRecDepth 100000
set_option maxHeartbeats 8000000
namespace Go.Proofs.YtomdgacmoeohnaaGreat
open Go.Ev
theorem rep_at (d : Nat) : (List.replicate 5 (0 : Int)).getD d 0 = 0 := by
 rw [List.getD_eq_getElem?_getD, List.getElem?_replicate]
 split <;> rfl
theorem tdiv_bd (x m n : Int) (h0 : 0 ≤ x) (h1 : x ≤ m) (h : 0 < n) : 0 ≤ x.tdiv n ∧ x.tdiv n ≤ m.tdiv n := by
 rw [Int.tdiv_eq_ediv_of_nonneg h0, Int.tdiv_eq_ediv_of_nonneg (by omega)]
 exact ⟨Int.ediv_nonneg h0 (by omega), Int.ediv_le_ediv h h1⟩
theorem ins_shift (l : List Opn) (z o : Opn) (i : Nat) (hi : i ≤ l.length) :
 (List.take (i + 1) (l ++ [z]) ++ (List.take (min (l.length - i) (List.drop i (List.take (i + (l.length + 1 - i)) (l ++ [z]))).length) (List.drop i (List.take (i + (l.length + 1 - i)) (l ++ [z]))) ++ List.drop (i + 1 + min (l.length - i) (List.drop i (List.take (i + (l.length + 1 - i)) (l ++ [z]))).length) (l ++ [z]))).length = l.length + 1
 ∧ (List.take (i + 1) (l ++ [z]) ++ (List.take (min (l.length - i) (List.drop i (List.take (i + (l.length + 1 - i)) (l ++ [z]))).length) (List.drop i (List.take (i + (l.length + 1 - i)) (l ++ [z]))) ++ List.drop (i + 1 + min (l.length - i) (List.drop i (List.take (i + (l.length + 1 - i)) (l ++ [z]))).length) (l ++ [z]))).set i o = l.take i ++ o :: l.drop i := by
 have h1 : List.take (i + (l.length + 1 - i)) (l ++ [z]) = l ++ [z] := List.take_of_length_le (by simp; omega)
 have h2 : List.drop i (l ++ [z]) = List.drop i l ++ [z] := List.drop_append_of_le_length hi
 have h3 : (List.drop i l ++ [z]).length = l.length - i + 1 := by simp
 have hl : i < (l ++ [z]).length := by simp; omega
 have h4 : List.take (i + 1) (l ++ [z]) = List.take i l ++ [(l ++ [z])[i]] := by rw [List.take_succ_eq_append_getElem hl, List.take_append_of_le_length hi]
 have h5 : min (l.length - i) (l.length - i + 1) = l.length - i := by omega
 have h6 : List.drop (i + 1 + (l.length - i)) (l ++ [z]) = [] := List.drop_of_length_le (by simp; omega)
 have h7 : List.take (l.length - i) (List.drop i l ++ [z]) = List.drop i l := by
  rw [List.take_append_of_le_length (by simp), List.take_of_length_le (by simp)]
 have h8 : (List.take i l).length = i := by simp; omega
 rw [h1, h2, h3, h5, h6, h4, h7, List.append_nil, List.append_assoc]
 constructor
 · simp; omega
 · rw [List.set_append_right _ _ (by omega), h8, Nat.sub_self]
   rfl
structure OpsR (c : Int) (l : List Opn) : Prop where
 okl : OkL l
 len : l.length ≤ 30
 dv : ∀ o ∈ l, 1 ≤ o.2.1 ∧ o.2.1 ≤ 4
 tm : ∀ o ∈ l, o.1 ≤ 100
 bx : ∀ o ∈ l, 1 ≤ o.2.2.2.2.1 ∧ o.2.2.2.2.1 ≤ c
structure OInv (c t : Int) (k : Int) (sq : List Int) (l : List Opn) : Prop where
 gn : Gn l t sq
 kl : (l.length : Int) + k ≤ 30
 t0 : 0 ≤ t
 t1 : t ≤ 2 * l.length
 sl : sq.length = 5
 s0 : ∀ d, 0 ≤ sq.getD d 0
 s1 : ∀ d, sq.getD d 0 ≤ 2 * l.length
 bx : ∀ o ∈ l, 1 ≤ o.2.2.2.2.1 ∧ o.2.2.2.2.1 ≤ c
def con9 : RCon := { ps := [.p 67 ySR, .d false (.int .i64), .d false (.int .i64), .d false (.int .i64)], rs := [.d false (.sl yOP)], pre := fun (x : Src × Int × Int × Int × Unit) => 0 ≤ x.1.2 ∧ x.2.1 ≤ 30 ∧ 0 ≤ x.2.1 ∧ 1 ≤ x.2.2.2.1 ∧ x.2.2.2.1 ≤ 900, rel := fun (x : Src × Int × Int × Int × Unit) (y : List Opn × Unit) (z : Src × Int × Int × Int × Unit) => 0 ≤ z.1.2 ∧ OpsR x.2.2.2.1 y.1 }
theorem c9 : RCtrOk Tryz.prog 9 con9.rctr :=
 rcon_sound (G := ⟨[(24, con24.ctr), (31, con31.ctr)], [], [(92, 1), (95, 1)], [], []⟩) tab_ok (EnvOk.cons c24 has24 (EnvOk.cons c31 has31 EnvOk.nil)) rfl Tryz.func9 rfl con9 4835703278458516700987151 (by kernel_rfl) (by decide) (by decide) rfl (by decide) rfl (by
  rintro ⟨⟨(s : List Int), (a : Int)⟩, (most : Int), (n : Int), (c : Int), _⟩ hpre hwf X hT hG hk hK
  (simp -implicitDefEqProofs only [go_sem, bP, con9, con24, con31, hT, hG, hk, hK, Tryz.results9] at hwf ⊢); (try simp (disch := decide +kernel) only [drawn, true_and, and_true])
  obtain ⟨h1, h2, h3, h4, h5⟩ : 0 ≤ a ∧ most ≤ 30 ∧ 0 ≤ most ∧ 1 ≤ c ∧ c ≤ 900 := hpre
  have hs1 : 0 ≤ (Src.step (s, a)).snd := step_pos h1
  have hkb := goMod_bd (Src.raw (s, a)) (most + 1) (by omega)
  generalize goMod (Src.raw (s, a)) (most + 1) = K at hkb ⊢
  generalize Src.step (s, a) = S1 at hs1 ⊢
  obtain ⟨s1, a1⟩ := S1
  refine ⟨by omega, h1, fun _ => ?_⟩
  refine evk_loop ⟨{ q : Src × List Opn × List Int × Int × Int // 0 ≤ q.1.2 ∧ OInv c q.2.2.2.1 q.2.2.2.2 q.2.2.1 q.2.1 ∧ 0 ≤ q.2.2.2.2 }, 1000, fun q => [(0, .one (.loc 0 0)), (2, .one (.int .i64 n)), (3, .one (.int .i64 c)), (9, .one (.row 64)), (10, .one (.ep 65 1 0 0)), (11, .one (.int .i64 q.1.2.2.2.1)), (12, .one (.int .i64 q.1.2.2.2.2))],
   fun q => [(0, .cells 67 [.sl (.int .i64) q.1.1.1 false, .int .i64 q.1.1.2]), (64, .row 77 yOP q.1.2.1), (65, .row 74 (.int .i64) q.1.2.2.1)], fun q => q.1.2.2.2.2.toNat⟩ ⟨((s1, a1), [], List.replicate 5 0, 0, K), hs1, ⟨Gn.nil _ _, by simp only [List.length_nil]; omega, Int.le_refl _, by simp, by simp, fun d => (by rw [rep_at]; exact Int.le_refl _), fun d => (by rw [rep_at]; simp), fun o h => (by cases h)⟩, by simp only; omega⟩ ?_ ?_
  · simp only [go_sem]
    try (first | rfl | exact ⟨rfl, rfl⟩)
  · rintro ⟨⟨⟨s, a⟩, l, sq, t, k⟩, (h1 : 0 ≤ a), (hI : OInv c t k sq l), (hk0 : 0 ≤ k)⟩
    (simp -implicitDefEqProofs only [go_sem, bP, con9, con24, con31, hT, hG, hk, hK, Tryz.results9]); (try simp (disch := decide +kernel) only [drawn, true_and, and_true])
    obtain ⟨gn, kl, t0, t1, sl, s0, sb1, bx⟩ := hI
    have p1 : 0 ≤ (Src.step (s, a)).snd := step_pos h1
    have p2 : 0 ≤ (Src.step (s, a)).step.snd := step_pos p1
    have p3 : 0 ≤ (Src.step (s, a)).step.step.snd := step_pos p2
    have p4 : 0 ≤ (Src.step (s, a)).step.step.step.snd := step_pos p3
    have p5 : 0 ≤ (Src.step (s, a)).step.step.step.step.snd := step_pos p4
    have r1 := goMod_bd (Src.raw (s, a)) 3 (by omega)
    have r2 := goMod_bd (Src.step (s, a)).raw 4 (by omega)
    have r3 := goMod_bd (Src.step (s, a)).step.raw 8 (by omega)
    have r4 := goMod_bd (Src.step (s, a)).step.step.raw 4 (by omega)
    have r5 := goMod_bd (Src.step (s, a)).step.step.step.raw c (by omega)
    have r6 := tdiv_bd (goMod (Src.step (s, a)).step.raw 8) 7 7 (by omega) (by omega) (by omega)
    have r7 := tdiv_bd (goMod (Src.step (s, a)).step.step.raw 4) 3 3 (by omega) (by omega) (by omega)
    generalize (goMod (Src.step (s, a)).step.raw 8).tdiv 7 = V at r6 ⊢
    generalize (goMod (Src.step (s, a)).step.step.raw 4).tdiv 3 = W at r7 ⊢
    generalize goMod (Src.raw (s, a)) 3 = T at r1 ⊢
    generalize goMod (Src.step (s, a)).raw 4 = D at r2 ⊢
    generalize goMod (Src.step (s, a)).step.step.step.raw c = B at r5 ⊢
    have p8 : 0 ≤ (Src.step (s, a)).step.step.step.step.step.step.step.snd := step_pos (step_pos (step_pos p5))
    have hpc := pieceV_ok (Src.step (s, a)).step.step.step.step n
    generalize (Src.step (s, a)).step.step.step.step.step.step.step = S8 at p8 ⊢
    generalize (Src.step (s, a)).step.step.step.step = S5 at p5 hpc ⊢
    generalize pieceV S5 n = P at hpc ⊢
    obtain ⟨⟨P1, P2, P3⟩, P4, P5⟩ := P
    obtain ⟨s8, a8⟩ := S8
    have p8 : 0 ≤ a8 := p8
    have q0 := s0 (1 + D).toNat
    have q1 := sb1 (1 + D).toNat
    have st := set_at (sq := sq) (i := (1 + D).toNat) (x := sq.getD (1 + D).toNat 0 + (1 + V)) (by omega) (1 + D).toNat
    rw [if_pos rfl] at st
    have e6 : (7 : Int).tdiv 7 = 1 := by decide
    have e7 : (3 : Int).tdiv 3 = 1 := by decide
    rw [e6] at r6
    rw [e7] at r7
    simp only [st, List.length_set, sl]
    generalize hQ : sq.getD (1 + D).toNat 0 = Q at q0 q1 st ⊢
    (repeat' with_reducible first | refine And.intro ?_ ?_ | intro _) <;> try first | with_reducible (first | assumption | omega | contradiction) | decide
    · refine evk_loop ⟨{ i : Nat // i ≤ l.length ∧ ∀ z ∈ l.drop i, z.1 = t + T ∧ 1 + D < z.2.1 }, 1000, fun q => [(0, .one (.loc 0 0)), (2, .one (.int .i64 n)), (3, .one (.int .i64 c)), (9, .one (.row 64)), (10, .one (.ep 65 1 0 0)), (11, .one (.int .i64 (t + T))), (12, .one (.int .i64 k)), (14, .one (.loc 71 0)), (15, .one (.int .i64 q.1))],
       fun q => [(0, .cells 67 [.sl (.int .i64) s8 false, .int .i64 a8]), (64, .row 77 yOP l), (65, .row 74 (.int .i64) (sq.set (1 + D).toNat (Q + (1 + V)))), (71, .cells 77 [.int .i64 (t + T), .int .i64 (1 + D), .int .i64 (Q + (1 + V)), .int .i64 (1 + W), .int .i64 (1 + B), .int .i64 P1, .int .i64 P2, .int .i64 P3, .int .i64 P4, .int .i64 P5])], fun q => q.1⟩ ⟨l.length, Nat.le_refl _, by simp⟩ ?_ ?_
      · simp only [go_sem]
        try (first | rfl | exact ⟨rfl, rfl⟩)
      · rintro ⟨i, (hi : i ≤ l.length), (hd : ∀ z ∈ l.drop i, z.1 = t + T ∧ 1 + D < z.2.1)⟩
        (simp -implicitDefEqProofs only [go_sem, bP, con9, con24, con31, hT, hG, hk, hK, Tryz.results9]); (try simp (disch := decide +kernel) only [drawn, true_and, and_true])
        obtain ⟨u, hu⟩ : ∃ u, l.getD ((i : Int) - 1).toNat (0, 0, 0, 0, 0, (0, 0, 0), 0, 0) = u := ⟨_, rfl⟩
        have hu2 : l.getD (i - 1) o0 = u := by rw [← hu]; congr 1; omega
        simp only [hu]
        refine ⟨by omega, by omega, fun _ => ⟨by omega, fun _ => ⟨by omega, by omega, fun _ => ⟨by omega, fun _ => ⟨fun hc => ⟨by omega, ?_⟩, fun hc => ?_⟩⟩⟩⟩⟩
        · refine fin_lp ⟨i - 1, by omega, fun z hz => ?_⟩ ?_ (by dsimp only; omega)
          · rw [List.drop_eq_getElem_cons (by omega : i - 1 < l.length), show i - 1 + 1 = i by omega] at hz
            rcases List.mem_cons.1 hz with rfl | hz
            · rw [getD_at (by omega : i - 1 < l.length)] at hu2
              rw [hu2]; exact ⟨hc.1.2, by omega⟩
            · exact hd z hz
          · simp only [go_sem]
            try first | rfl | (and_intros <;> first | rfl | omega)
        · have ll : (l ++ [((0, 0, 0, 0, 0, (0, 0, 0), 0, 0) : Opn)]).length = l.length + 1 := by simp
          have ln := gn.okl
          have lb : l.length ≤ 30 := by omega
          have e1 : ((i : Int) + 1).toNat = i + 1 := by omega
          have e2 : ((l.length + 1 : Nat) - ((i : Int) + 1)).toNat = l.length - i := by omega
          have e3 : ((l.length + 1 : Nat) - (i : Int)).toNat = l.length + 1 - i := by omega
          have e4 : (i : Int).toNat = i := by omega
          have w1 : (i + 1) + (l.length - i) ≤ l.length + 1 := by omega
          have w2 : i + (l.length + 1 - i) ≤ l.length + 1 := by omega
          simp only [ll, e1, e2, e3, e4]
          refine ⟨by omega, by omega, by omega, by omega, ?_⟩
          (simp -implicitDefEqProofs only [go_sem, bP, con9, con24, con31, hT, hG, hk, hK, Tryz.results9, w1, w2, ll]); (try simp (disch := decide +kernel) only [drawn, true_and, and_true])
          obtain ⟨i1, i2⟩ := ins_shift l ((0, 0, 0, 0, 0, (0, 0, 0), 0, 0) : Opn) (t + T, 1 + D, Q + (1 + V), 1 + W, 1 + B, (P1, P2, P3), P4, P5) i hi
          rw [e4]
          rw [i1, i2]
          refine ⟨by omega, fun _ => ⟨by omega, by omega, ?_⟩⟩
          have ok : okOp (t + T, 1 + D, Q + (1 + V), 1 + W, 1 + B, (P1, P2, P3), P4, P5) = true := by
           unfold okOp inV
           simp only [hpc, Bool.and_eq_true, Bool.or_eq_true, decide_eq_true_eq, and_true]
           omega
          have hmm : ∀ z ∈ l.take i ++ (t + T, 1 + D, Q + (1 + V), 1 + W, 1 + B, (P1, P2, P3), P4, P5) :: l.drop i, 1 ≤ z.2.2.2.2.1 ∧ z.2.2.2.2.1 ≤ c := fun z hz => by
           rcases List.mem_append.1 hz with h | h
           · exact bx z (List.mem_of_mem_take h)
           · rcases List.mem_cons.1 h with rfl | h
             · exact ⟨by dsimp only; omega, by dsimp only; omega⟩
             · exact bx z (List.mem_of_mem_drop h)
          have hgn := gn.ins (o := (t + T, 1 + D, Q + (1 + V), 1 + W, 1 + B, (P1, P2, P3), P4, P5)) (i := i) ok ⟨by dsimp only; omega, by dsimp only; omega⟩ (by dsimp only; omega) sl (by dsimp only; rw [hQ]; omega) hi hd (fun h0 q => by rw [hu2] at q; have q1 : u.1 = t + T := q.1; have q2 : 1 + D < u.2.1 := q.2; omega)
          have hlen : (l.take i ++ (t + T, 1 + D, Q + (1 + V), 1 + W, 1 + B, (P1, P2, P3), P4, P5) :: l.drop i).length = l.length + 1 := by simp; omega
          have sg : ∀ d, (sq.set (1 + D).toNat (Q + (1 + V))).getD d 0 = if (1 + D).toNat = d then Q + (1 + V) else sq.getD d 0 := fun d => set_at (by omega) d
          refine fin_lp ⟨((s8, a8), l.take i ++ (t + T, 1 + D, Q + (1 + V), 1 + W, 1 + B, (P1, P2, P3), P4, P5) :: l.drop i, sq.set (1 + D).toNat (Q + (1 + V)), t + T, k - 1), p8, ⟨hgn, ?_, ?_, ?_, ?_, fun d => ?_, fun d => ?_, hmm⟩, ?_⟩ ?_ ?_
          · rw [hlen]; dsimp only; omega
          · dsimp only; omega
          · rw [hlen]; dsimp only; omega
          · simp only [List.length_set]; exact sl
          · rw [sg]
            have := s0 d
            split <;> omega
          · rw [sg, hlen]
            have := sb1 d
            split <;> omega
          · dsimp only; omega
          · simp only [go_sem]
            try first | rfl | (and_intros <;> first | rfl | omega)
          · dsimp only; omega
    · exact ⟨(l, ()), ((s, a), most, n, c, ()), ⟨h1, ⟨gn.okl, (show l.length ≤ 30 by omega), gn.dv, fun o ho => by have := gn.tm o ho; omega, bx⟩⟩, rfl, rfl, rfl⟩)
end Go.Proofs.YtomdgacmoeohnaaGreat

/- A part. -/
set_option maxRecDepth 100000
set_option maxHeartbeats 8000000
namespace Go.Proofs.YtomdgacmoeohnaaGreat
open Go.Ev
def stepP (x : Plc) (o : Opn) : Plc := if o.2.2.2.1 = 2 then (o.2.2.2.2.2, 0, []) else (o.2.2.2.2.2, o.2.2.2.2.1, insC cmpV x.2.2 o.2.2.2.2.1)
def z0 : Plc := (((0, 0, 0), 0, 0), 0, [])
theorem placeR_len (m : List Opn) : (m.foldl stepP z0).2.2.length ≤ m.length := by
 refine snoc_ind (P := fun m => (m.foldl stepP z0).2.2.length ≤ m.length) (by simp [z0]) (fun m o ih => ?_) m
 rw [List.foldl_append, List.foldl_cons, List.foldl_nil, List.length_append, List.length_singleton]
 generalize m.foldl stepP z0 = x at ih ⊢
 unfold stepP
 split
 · simp
 · have := insC_len (c := cmpV) o.2.2.2.2.1 x.2.2
   simp only
   omega
def platesR (l : List Opn) : List Plt := l.foldl (fun ks o => insC pltC ks o.plate) []
theorem platesR_snoc (l : List Opn) (o : Opn) : platesR (l ++ [o]) = insC pltC (platesR l) o.plate := by simp [platesR]
theorem platesR_len (l : List Opn) : (platesR l).length ≤ l.length := by
 refine snoc_ind (P := fun l => (platesR l).length ≤ l.length) (by simp [platesR]) (fun l o ih => ?_) l
 rw [platesR_snoc, List.length_append, List.length_singleton]
 have := insC_len (c := pltC) o.plate (platesR l)
 omega
def placesR (l : List Opn) : List Plc := if valV l ≠ 0 then [] else (platesR l).map (fun p => (aboutP l p).foldl stepP z0)
def con67 : Con := { ps := [.d false (.sl (.int .i64)), .d false (.int .i64)], rs := [.d false (.sl (.int .i64))], pre := fun (x : List Int × Int × Unit) => x.1.length ≤ 100000, out := fun (x : List Int × Int × Unit) => (insC cmpV x.1 x.2.1, ()), nw := id }
theorem c67 : CtrOk Tryz.prog 67 con67.ctr :=
 con_sound (G := ⟨[], [], [], [], []⟩) tab_ok EnvOk.nil rfl Tryz.func67 rfl con67 4295229555 (by kernel_rfl) (by decide) (by decide) rfl (by decide) rfl (by
  rintro ⟨(l : List Int), (n : Int), _⟩ hpre hwf X hT hG hk hK
  (simp -implicitDefEqProofs only [go_sem, bP, con67, hT, hG, hk, hK, Tryz.results67] at hwf ⊢); (try simp (disch := decide +kernel) only [drawn, true_and, and_true])
  have h1 : l.length ≤ 100000 := hpre
  refine evk_loop ⟨{ k : Nat // k ≤ l.length ∧ ∀ j, j < k → l.getD j 0 < n }, 1000, fun q => [(0, .one (.sl (.int .i64) l false)), (1, .one (.int .i64 n)), (5, .one (.int .i64 q.1))], fun q => [], fun q => l.length - q.1⟩ ⟨0, by omega, fun j hj => by omega⟩ ?_ ?_
  · simp only [go_sem]
    try (first | rfl | exact ⟨rfl, rfl⟩)
  · rintro ⟨k, (hkl : k ≤ l.length), (hlt : ∀ j, j < k → l.getD j 0 < n)⟩
    (simp -implicitDefEqProofs only [go_sem, bP, con67, hT, hG, hk, hK, Tryz.results67]); (try simp (disch := decide +kernel) only [drawn, true_and, and_true])
    have e4 : (k : Int).toNat = k := by omega
    simp only [e4]
    obtain ⟨v, hv⟩ : ∃ v, l.getD k 0 = v := ⟨_, rfl⟩
    have hat := insC_at (c := cmpV) n 0 hkl (fun j hj => (cmpV_lt _ _).2 (hlt j hj))
    simp only [cmpV_lt, cmpV_eq, hv] at hat ⊢
    refine fun _ => ⟨by omega, fun _ _ => ⟨fun hc => ⟨by omega, ?_⟩, fun hc _ => ⟨by omega, fun _ _ => ⟨fun he => ?_, fun he => ?_⟩⟩⟩⟩
    · refine fin_lp ⟨k + 1, by omega, fun j hj => ?_⟩ ?_ (by dsimp only; omega)
      · by_cases e : j = k
        · subst e; omega
        · exact hlt j (by omega)
      · simp only [go_sem]
        try first | rfl | (and_intros <;> first | rfl | omega)
    · rw [hat (by omega), if_pos ⟨by omega, he.2⟩]
    · rw [hat (by omega), if_neg (by omega)]
      simp only [Int.toNat_natCast, List.take_length, List.append_assoc, List.singleton_append, List.length_append, List.length_take, List.length_drop, List.length_singleton]
      and_intros <;> first | omega | trivial | rfl)
def con29 : Con := { ps := [.d false (.sl yOP)], rs := [.d false (.sl yPL)], pre := fun (x : List Opn × Unit) => x.1.length ≤ 100000, out := fun (x : List Opn × Unit) => (platesR x.1, ()), nw := id }
theorem c29 : CtrOk Tryz.prog 29 con29.ctr :=
 con_sound (G := ⟨[(66, con66.ctr)], [], [(53, 1), (56, 1)], [], []⟩) tab_ok (EnvOk.cons c66 has66 EnvOk.nil) rfl Tryz.func29 rfl con29 35186519573629 (by kernel_rfl) (by decide) (by decide) rfl (by decide) rfl (by
  rintro ⟨(l : List Opn), _⟩ hpre hwf X hT hG hk hK
  (simp -implicitDefEqProofs only [go_sem, bP, con29, con66, hT, hG, hk, hK, Tryz.results29] at hwf ⊢); (try simp (disch := decide +kernel) only [drawn, true_and, and_true])
  have h1 : l.length ≤ 100000 := hpre
  refine evk_loop ⟨{ i : Nat // i ≤ l.length }, 1000, fun q => [(0, .one (.sl yOP l false)), (3, .one (.row 64)), (4, .one (.int .i64 q.1))], fun q => [(64, .row 41 yPL (platesR (l.take q.1)))], fun q => l.length - q.1⟩ ⟨0, by omega⟩ ?_ ?_
  · simp only [go_sem]
    try (first | rfl | exact ⟨rfl, rfl⟩)
  · rintro ⟨i, (hi : i ≤ l.length)⟩
    (simp -implicitDefEqProofs only [go_sem, bP, con29, con66, hT, hG, hk, hK, Tryz.results29]); (try simp (disch := decide +kernel) only [drawn, true_and, and_true])
    have hlen := platesR_len (l.take i)
    have hlt : (l.take i).length ≤ i := by simp; omega
    refine fun _ => ⟨fun hc => ?_, fun hc => ?_⟩
    · have hil : i < l.length := by omega
      obtain ⟨o, ho⟩ : ∃ o, l[i] = o := ⟨_, rfl⟩
      have eo : l.getD (i : Int).toNat (0, 0, 0, 0, 0, (0, 0, 0), 0, 0) = o := by rw [← ho]; simp [hil]
      have hts : platesR (l.take (i + 1)) = insC pltC (platesR (l.take i)) o.plate := by rw [List.take_succ_eq_append_getElem hil, ho, platesR_snoc]
      rw [eo]
      generalize platesR (l.take i) = ks at hlen hts ⊢
      refine ⟨by omega, fun _ _ => ?_⟩
      refine evk_loop ⟨{ k : Nat // k ≤ ks.length ∧ ∀ j, j < k → pltC (ks.getD j (0, 0, 0)) o.plate < 0 }, 1000, fun q => [(0, .one (.sl yOP l false)), (3, .one (.row 64)), (4, .one (.int .i64 i)), (5, .one (.loc 71 0)), (6, .one (.int .i64 q.1))], fun q => [(64, .row 41 yPL ks), (71, .cells 41 [.int .i64 o.2.2.2.2.2.1.1, .int .i64 o.2.2.2.2.2.1.2.1, .int .i64 o.2.2.2.2.2.1.2.2])], fun q => ks.length - q.1⟩ ⟨0, by omega, fun j hj => by omega⟩ ?_ ?_
      · simp only [go_sem]
        try (first | rfl | exact ⟨rfl, rfl⟩)
      · rintro ⟨k, (hkl : k ≤ ks.length), (hlt : ∀ j, j < k → pltC (ks.getD j (0, 0, 0)) o.plate < 0)⟩
        (simp -implicitDefEqProofs only [go_sem, bP, con29, con66, hT, hG, hk, hK, Tryz.results29]); (try simp (disch := decide +kernel) only [drawn, true_and, and_true])
        have e4 : (k : Int).toNat = k := by omega
        obtain ⟨v, hv⟩ : ∃ v, ks.getD k (0, 0, 0) = v := ⟨_, rfl⟩
        have hat := insC_at (c := pltC) o.plate (0, 0, 0) hkl hlt
        have hpl : o.plate = o.2.2.2.2.2.1 := rfl
        simp only [e4, hv] at hat ⊢
        refine fun _ => ⟨by omega, fun _ => ⟨by omega, fun _ _ => ⟨fun hc => ⟨by omega, ?_⟩, fun hc => ?_⟩⟩⟩
        · refine fin_lp ⟨k + 1, by omega, fun j hj => ?_⟩ ?_ (by dsimp only; omega)
          · by_cases e : j = k
            · subst e; rw [hv]; exact hc.2
            · exact hlt j (by omega)
          · simp only [go_sem]
            try first | rfl | (and_intros <;> first | rfl | omega)
        · have hat := hat (fun h q => by rw [hpl] at q; omega)
          simp only [pltC_cmp.eq] at hat
          have hlks : ks.length ≤ 100000 := by omega
          refine fun _ => ⟨by omega, fun _ => ⟨by omega, fun _ => ⟨fun hc2 => ⟨by omega, ?_⟩, fun hc2 => ?_⟩⟩⟩
          · have hvo : v = o.plate := Prod.ext hc2.2.1 (Prod.ext hc2.2.2.1 hc2.2.2.2)
            rw [if_pos ⟨by omega, hvo⟩] at hat
            rw [hat] at hts
            refine fin_lp ⟨i + 1, by omega⟩ ?_ (by dsimp only; omega)
            simp only [go_sem]
            rw [hts]
            try first | rfl | (and_intros <;> first | rfl | omega)
          · have hvo : ¬ (k < ks.length ∧ v = o.plate) := fun q => by
             have q2 := q.2
             subst q2
             rcases hc2 with h | h | h | h
             · omega
             · exact h rfl
             · exact h rfl
             · exact h rfl
            rw [if_neg hvo] at hat
            rw [hat] at hts
            have ll : (ks ++ [((0, 0, 0) : Plt)]).length = ks.length + 1 := by simp
            have e1 : ((k : Int) + 1).toNat = k + 1 := by omega
            have e2 : ((ks.length + 1 : Nat) - ((k : Int) + 1)).toNat = ks.length - k := by omega
            have e3 : ((ks.length + 1 : Nat) - (k : Int)).toNat = ks.length + 1 - k := by omega
            have w1 : (k + 1) + (ks.length - k) ≤ ks.length + 1 := by omega
            have w2 : k + (ks.length + 1 - k) ≤ ks.length + 1 := by omega
            simp only [ll, e1, e2, e3, e4]
            refine ⟨by omega, by omega, by omega, by omega, ?_⟩
            (simp -implicitDefEqProofs only [go_sem, bP, con29, con66, hT, hG, hk, hK, Tryz.results29, w1, w2, ll]); (try simp (disch := decide +kernel) only [drawn, true_and, and_true])
            obtain ⟨i1, i2⟩ := ins_shiftG ks ((0, 0, 0) : Plt) (o.2.2.2.2.2.1.1, o.2.2.2.2.2.1.2.1, o.2.2.2.2.2.1.2.2) k hkl
            try rw [e4]
            rw [i1, i2]
            refine ⟨by omega, fun _ => ⟨by omega, by omega, ?_⟩⟩
            refine fin_lp ⟨i + 1, by omega⟩ ?_ (by dsimp only; omega)
            simp only [go_sem]
            rw [hts]
            try first | rfl | (and_intros <;> first | rfl | omega)
    · rw [List.take_of_length_le (by omega)])
theorem aboutP_succ {l : List Opn} {p : Plt} {i : Nat} {o : Opn} (h : i < l.length) (ho : l[i] = o) : (aboutP (l.take (i + 1)) p).foldl stepP z0 = if o.plate = p then stepP ((aboutP (l.take i) p).foldl stepP z0) o else (aboutP (l.take i) p).foldl stepP z0 := by
 rw [List.take_succ_eq_append_getElem h, ho]
 unfold aboutP
 rw [List.filter_append, List.foldl_append]
 by_cases e : o.plate = p <;> simp [e]
def con30 : Con := { ps := [.d false (.sl yOP), .d true yPL], rs := [.d true yPM], pre := fun (x : List Opn × Plt × Unit) => x.1.length ≤ 100000, out := fun (x : List Opn × Plt × Unit) => ((aboutP x.1 x.2.1).foldl stepP z0, ()), nw := id }
theorem c30 : CtrOk Tryz.prog 30 con30.ctr :=
 con_sound (G := ⟨[(67, con67.ctr)], [], [], [], []⟩) tab_ok (EnvOk.cons c67 has67 EnvOk.nil) rfl Tryz.func30 rfl con30 8590984315 (by kernel_rfl) (by decide) (by decide) rfl (by decide) rfl (by
  rintro ⟨(l : List Opn), ⟨(p1 : Int), (p2 : Int), (p3 : Int)⟩, _⟩ hpre hwf X hT hG hk hK
  (simp -implicitDefEqProofs only [go_sem, bP, con30, con67, hT, hG, hk, hK, Tryz.results30] at hwf ⊢); (try simp (disch := decide +kernel) only [drawn, true_and, and_true])
  have h1 : l.length ≤ 100000 := hpre
  obtain ⟨V, hV⟩ : ∃ V : Nat → Plc, V = fun i => (aboutP (l.take i) (p1, p2, p3)).foldl stepP z0 := ⟨_, rfl⟩
  have hVl : ∀ i, i ≤ l.length → (V i).2.2.length ≤ i := fun i hi => by
   rw [hV]
   refine Nat.le_trans (placeR_len _) (Nat.le_trans (about_len _ _) ?_)
   simp; omega
  have hV0 : V 0 = z0 := by rw [hV]; rfl
  refine evk_loop ⟨{ i : Nat // i ≤ l.length }, 1000, fun q => [(0, .one (.sl yOP l false)), (3, .one (.loc 70 0)), (4, .one (.loc 71 0)), (5, .one (.loc 72 0)), (6, .one (.int .i64 q.1))], fun q => [(70, .cells 41 [.int .i64 p1, .int .i64 p2, .int .i64 p3]), (71, .cells 65 [.undef, .undef, .undef, .undef, .undef, .undef, .undef]), (72, .cells 65 [.int .i64 (V q.1).1.1.1, .int .i64 (V q.1).1.1.2.1, .int .i64 (V q.1).1.1.2.2, .int .i64 (V q.1).1.2.1, .int .i64 (V q.1).1.2.2, .int .i64 (V q.1).2.1, .sl (.int .i64) (V q.1).2.2 false])], fun q => l.length - q.1⟩ ⟨0, by omega⟩ ?_ ?_
  · simp only [go_sem]
    simp only [hV0, z0]
    try (first | rfl | exact ⟨rfl, rfl⟩ | (and_intros <;> first | trivial | rfl))
  · rintro ⟨i, (hi : i ≤ l.length)⟩
    (simp -implicitDefEqProofs only [go_sem, bP, con30, con67, hT, hG, hk, hK, Tryz.results30]); (try simp (disch := decide +kernel) only [drawn, true_and, and_true])
    refine fun _ => ⟨fun hc => ?_, fun hc => ?_⟩
    · have hil : i < l.length := by omega
      obtain ⟨o, ho⟩ : ∃ o, l[i] = o := ⟨_, rfl⟩
      have eo : l.getD (i : Int).toNat (0, 0, 0, 0, 0, (0, 0, 0), 0, 0) = o := by rw [← ho]; simp [hil]
      have hst : V (i + 1) = if o.plate = (p1, p2, p3) then stepP (V i) o else V i := by rw [hV]; exact aboutP_succ hil ho
      have hli := hVl i (by omega)
      rw [eo]
      have hA : (¬o.2.2.2.2.2.1.1 = p1 ∨ ¬o.2.2.2.2.2.1.2.1 = p2 ∨ ¬o.2.2.2.2.2.1.2.2 = p3) → V (i + 1) = V i := fun q => by
       rw [hst, if_neg]
       intro e
       have e1 : o.2.2.2.2.2.1 = (p1, p2, p3) := e
       rw [e1] at q
       simp at q
      have hP : (o.2.2.2.2.2.1.1 = p1 ∧ o.2.2.2.2.2.1.2.1 = p2 ∧ o.2.2.2.2.2.1.2.2 = p3) → o.plate = (p1, p2, p3) := fun q => Prod.ext q.1 (Prod.ext q.2.1 q.2.2)
      have hB : (o.2.2.2.2.2.1.1 = p1 ∧ o.2.2.2.2.2.1.2.1 = p2 ∧ o.2.2.2.2.2.1.2.2 = p3) → o.2.2.2.1 = 2 → V (i + 1) = (o.2.2.2.2.2, 0, []) := fun q h => by
       rw [hst, if_pos (hP q), stepP, if_pos h]
      have hC : (o.2.2.2.2.2.1.1 = p1 ∧ o.2.2.2.2.2.1.2.1 = p2 ∧ o.2.2.2.2.2.1.2.2 = p3) → ¬ o.2.2.2.1 = 2 → V (i + 1) = (o.2.2.2.2.2, o.2.2.2.2.1, insC cmpV (V i).2.2 o.2.2.2.2.1) := fun q h => by
       rw [hst, if_pos (hP q), stepP, if_neg h]
      clear hst hP
      (repeat' with_reducible first | refine And.intro ?_ ?_ | intro _) <;> try first | with_reducible (first | assumption | omega | contradiction) | decide
      · have e := hA (by assumption)
        refine fin_lp ⟨i + 1, by omega⟩ ?_ (by dsimp only; omega)
        simp only [go_sem]
        simp only [e]
        try first | rfl | (and_intros <;> first | trivial | rfl | omega)
      · have e := hB (by first | assumption | (and_intros <;> assumption)) (by assumption)
        refine fin_lp ⟨i + 1, by omega⟩ ?_ (by dsimp only; omega)
        simp only [go_sem]
        simp only [e]
        try first | rfl | (and_intros <;> first | trivial | rfl | omega)
      · have e := hC (by first | assumption | (and_intros <;> assumption)) (by assumption)
        refine fin_lp ⟨i + 1, by omega⟩ ?_ (by dsimp only; omega)
        simp only [go_sem]
        simp only [e]
        try first | rfl | (and_intros <;> first | trivial | rfl | omega)
    · have e : V i = (aboutP l (p1, p2, p3)).foldl stepP z0 := by rw [hV]; dsimp only; rw [List.take_of_length_le (by omega)]
      rw [← e]
      try first | rfl | (and_intros <;> first | trivial | rfl | omega))
end Go.Proofs.YtomdgacmoeohnaaGreat

/- A part. -/
set_option maxRecDepth 100000
set_option maxHeartbeats 8000000
namespace Go.Proofs.YtomdgacmoeohnaaGreat
open Go.Ev
def conPlR : Con := { ps := [.d false (.sl yOP)], rs := [.d false (.sl yPM)], pre := fun _ => True, out := fun (x : List Opn × Unit) => (placesR x.1, ()), nw := id }
theorem cPlR : CtrOk Tryz.prog 8 conPlR.ctr :=
 con_sound (G := ⟨[(28, con28.ctr), (29, con29.ctr), (30, con30.ctr)], [], [], [], []⟩) tab_ok (EnvOk.cons c28 has28 (EnvOk.cons c29 has29 (EnvOk.cons c30 has30 EnvOk.nil))) rfl Tryz.func8 rfl conPlR 16701 (by kernel_rfl) (by decide) (by decide) rfl (by decide) rfl (by
  rintro ⟨(l : List Opn), _⟩ hpre hwf X hT hG hk hK
  (simp -implicitDefEqProofs only [go_sem, bP, conPlR, con28, con29, con30, hT, hG, hk, hK, Tryz.results8] at hwf ⊢)
  refine fun _ => ⟨fun h => ?_, fun h => ?_⟩
  · unfold placesR; rw [if_pos h]
  · obtain ⟨hl, _⟩ := valV_zero h
    have hpl := platesR_len l
    refine ⟨by omega, fun _ => ?_⟩
    refine evk_loop ⟨{ i : Nat // i ≤ (platesR l).length }, 1000, fun q => [(0, .one (.sl yOP l false)), (3, .one (.row 64)), (4, .one (.sl yPL (platesR l) false)), (5, .one (.int .i64 q.1))], fun q => [(64, .row 65 yPM (((platesR l).take q.1).map (fun p => (aboutP l p).foldl stepP z0)))], fun q => (platesR l).length - q.1⟩ ⟨0, by omega⟩ ?_ ?_
    · simp only [go_sem]
      try (first | rfl | exact ⟨rfl, rfl⟩)
    · rintro ⟨i, (hi : i ≤ (platesR l).length)⟩
      (simp -implicitDefEqProofs only [go_sem, bP, conPlR, con28, con29, con30, hT, hG, hk, hK, Tryz.results8])
      refine fun _ => ⟨fun hc => ?_, fun hc => ?_⟩
      · have hil : i < (platesR l).length := by omega
        obtain ⟨p, hp⟩ : ∃ p, (platesR l)[i] = p := ⟨_, rfl⟩
        have ep : (platesR l).getD (i : Int).toNat (0, 0, 0) = p := by rw [← hp]; simp [hil]
        have hst : ((platesR l).take (i + 1)).map (fun p => (aboutP l p).foldl stepP z0) = ((platesR l).take i).map (fun p => (aboutP l p).foldl stepP z0) ++ [(aboutP l p).foldl stepP z0] := by
         rw [List.take_succ_eq_append_getElem hil, List.map_append, hp]; rfl
        have hml : (((platesR l).take i).map (fun p => (aboutP l p).foldl stepP z0)).length ≤ 360 := by simp; omega
        rw [ep]
        (repeat' with_reducible first | refine And.intro ?_ ?_ | intro _) <;> try first | with_reducible (first | assumption | omega | contradiction) | decide
        refine fin_lp ⟨i + 1, by omega⟩ ?_ (by dsimp only; omega)
        simp only [go_sem]
        rw [hst]
        try first | rfl | (and_intros <;> first | trivial | rfl | omega)
      · unfold placesR
        rw [if_neg (by simp [h]), List.take_of_length_le (by omega)])
end Go.Proofs.YtomdgacmoeohnaaGreat
