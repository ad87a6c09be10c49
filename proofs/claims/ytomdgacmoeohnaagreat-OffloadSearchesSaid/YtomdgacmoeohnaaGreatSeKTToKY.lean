/- A part. -/
import Derived.Test.YtomdgacmoeohnaaGreatSeKfToSeal
import Derived.WalkKit
import Derived.Test.YtomdgacmoeohnaaGreatEvFun5
import Derived.Test.YtomdgacmoeohnaaGreatEvSimp
import Derived.Shelf.SlIter.Sorted
import Derived.Shelf.SlIter.Collect
import Derived.Test.YtomdgacmoeohnaaGreatSeKOToKD
set_option maxRecDepth 100000
set_option maxHeartbeats 4000000
namespace Go.Proofs.YtomdgacmoeohnaaGreat
open Go.Ev Go.RowKit
abbrev Tsk := Int × List (Int × Int × Int)
theorem task_walk (g off n cap : Nat) (a : Option Addr) (zs : List Int) (t : Int) (w : World) (hz : zs.length = n) (hbig : n ≤ 9223372036854775807) (ha : 0 < n → a = some ⟨g, off, none⟩) (hc : ∀ j, j < n → w.cell? ⟨g, off + j * 2, none⟩ = some (.int .i64 (zs.getD j 0))) :
 Calls Tryz.prog 39 #[.slice a n cap, .int .i64 t] w fun e w' => w' = w ∧
  ((∃ k, k < n ∧ zs.getD k 0 = t ∧ (∀ j, j < k → zs.getD j 0 ≠ t) ∧ e = .returned (.pointer (some ⟨g, off + k * 2, none⟩))) ∨ ((∀ j, j < n → zs.getD j 0 ≠ t) ∧ e = .returned (.pointer none))) := by
 go_enter Tryz.func39, Tryz.ntmps39
 go_wp2
 go_loop [8] (fun i => ∃ k : Nat, k ≤ n ∧ i = .int .i64 k ∧ ∀ j, j < k → zs.getD j 0 ≠ t) (fun i => n - (intOf i).toNat)
 case atStart => exact ⟨0, Nat.zero_le _, rfl, fun j hj => absurd hj (Nat.not_lt_zero _)⟩
 case round =>
  obtain ⟨k, hk, rfl, hno⟩ := hrel
  by_cases hlt : k < n
  · obtain rfl := ha (by omega)
    have hcell := hc k hlt
    clear hc ha
    obtain ⟨z, hz0⟩ : ∃ z, zs.getD k 0 = z := ⟨_, rfl⟩
    rw [hz0] at hcell
    go_wp2
    · have hq : z = t := by
       have h : (z == t) = true := by assumption
       simpa using h
      simp only [List.getD_eq_getElem?_getD] at hz0 hno
      go_ret
      exact ⟨rfl, .inl ⟨k, hlt, hz0.trans hq, hno, rfl⟩⟩
    · have hq : z ≠ t := by
       have h : (z == t) = false := by assumption
       simpa using h
      refine ⟨⟨k + 1, by omega, by simp, fun j hj => ?_⟩, by simp only [intOf]; omega⟩
      by_cases e : j = k
      · rw [e, hz0]; exact hq
      · exact hno j (by omega)
  · obtain rfl : k = n := by omega
    clear hc ha
    go_wp2
    simp only [List.getD_eq_getElem?_getD] at hno
    go_ret
    exact ⟨rfl, .inr ⟨hno, rfl⟩⟩
def taskC (id : Nat) (t : Int) (xs : List Tsk) : Chc := ⟨Bool, True, fun b => match b with | true => .one (.ep id 2 (idxV (fun (x : Tsk) => decide (x.1 = t)) xs) 0) | false => .one .nilp, fun _ => [], fun b => match b with | true => 0 ≤ idxV (fun (x : Tsk) => decide (x.1 = t)) xs | false => idxV (fun (x : Tsk) => decide (x.1 = t)) xs < 0⟩
def taskO (id : Nat) (t : Int) (p : Nat) : Option (List Tsk) → Chc
 | some xs => if p = 1 then taskC id t xs else Chc.bad
 | none => Chc.bad
def taskR : RCtr := fun avs m _ => match avs with
 | [.one (.row id), .one (.int .i64 t)] => (match m id with
   | .rowg _ u p _ xs none => taskO id t p (castTy u yTK xs)
   | _ => Chc.bad)
 | _ => Chc.bad
theorem taskR_inv {avs : List AV} {m : Mem} {fr : Nat} (hp : (taskR avs m fr).pre) : ∃ id t e fid xs, avs = [.one (.row id), .one (.int .i64 t)] ∧ m id = .rowg e yTK 1 fid xs none ∧ taskR avs m fr = taskC id t xs := by
 unfold taskR at hp ⊢
 split at hp
 case h_2 => exact hp.elim
 rename_i id t
 split at hp
 case h_2 => exact hp.elim
 rename_i e u p fid xs0 hm
 unfold taskO at hp
 split at hp
 case h_2 => exact hp.elim
 rename_i xs hcast
 split at hp
 case isFalse => exact hp.elim
 rename_i hp1
 subst hp1
 obtain ⟨e1, e2⟩ := castTy_eq hcast
 subst e1
 have e2 : xs0 = xs := e2.symm
 subst e2
 exact ⟨id, t, e, fid, xs0, rfl, hm, by simp only [hm, hcast, taskO, if_true]⟩
theorem taskR_ok : RCtrOk Tryz.prog 39 taskR := by
 intro D gv hD cx hcx σ N m w fr avs vs h hfr hr hp
 obtain ⟨id, t, e, fid, xs, rfl, hm, hC⟩ := taskR_inv hp
 rw [hC]
 clear hp hC
 unfold repAs at hr
 obtain ⟨v, vs', rfl, g1, g2⟩ := hr
 unfold repAs at g2
 obtain ⟨v2, vs2, rfl, g3, g4⟩ := g2
 unfold repAs at g4
 subst g4
 unfold repA repC at g1 g3
 obtain ⟨n1, rfl⟩ := g1
 obtain ⟨rfl, _⟩ := g3
 simp only [rx] at n1
 have hb := h.blk id
 rw [hm] at hb
 obtain ⟨f, vs3, flat, b1, b2, b3, b4, b5⟩ := hb
 simp only [rx] at b1 b2 b4
 have hlen : vs3.toList.length = xs.length := b3
 have hcells : ∀ g, blkOf (σ id) = some g → ∀ j, j < xs.length → w.cell? ⟨g, 0 + j * 2, none⟩ = some (.int .i64 ((xs.map (fun x => x.1)).getD j 0)) := fun g hg j hj => by
  have hz : j < (xs.zip (holed vs3.toList none)).length := by
   rw [List.length_zip]; simp only [holed, List.length_map]; omega
  obtain ⟨pre, c, post, e1, e2, e3, _, _⟩ := roAll_at (n := (yTK : Ty).n) (fun x c hx => elG_len (t := yTK) (p := 1) x c hx) b5 hz
  have e2 : pre.length = j * 2 := e2
  obtain ⟨c1, c2, c3, c4⟩ := e3
  have hcl : c.length = 2 := elG_len _ _ ⟨c1, c2, c3, c4⟩
  obtain ⟨p0, p1, rfl⟩ : ∃ p0 p1, c = [p0, p1] := by
   match c, hcl with | [p0, p1], _ => exact ⟨p0, p1, rfl⟩
  obtain ⟨q1, q2, q3, q4, q5⟩ := c4
  have q4 : q1 = [.int .i64 (xs[j]).1] := by
   have := q4.1
   simpa using this
  subst q4
  have q3 : [p0, Value.slice none 0 0] = [Value.int .i64 (xs[j]).1] ++ q2 := q3
  have hp0 : p0 = .int .i64 (xs[j]).1 := by
   have := congrArg (fun l => l[0]?) q3
   simpa using this
  have hfl : flat[j * 2]? = some p0 := by
   rw [e1, List.getElem?_append_right (by omega), e2, Nat.sub_self]; rfl
  rw [Nat.zero_add, rowR_cells b4 hg (j * 2) p0 hfl, hp0, List.getD_eq_getElem?_getD, List.getElem?_map, List.getElem?_eq_getElem hj]
  rfl
 obtain ⟨a, cap, hv, hbig, hg⟩ : ∃ a cap, σ id = .slice a xs.length cap ∧ xs.length ≤ 9223372036854775807 ∧ (0 < xs.length → ∃ g, a = some ⟨g, 0, none⟩ ∧ blkOf (σ id) = some g) := by
  rcases b4.2 with ⟨q1, a, q2⟩ | ⟨g, cap, cur, q1, q2, q3, q4, q5, q6, q7⟩
  · exact ⟨a, 0, by rw [q2, q1], by omega, fun h => by omega⟩
  · exact ⟨_, cap, q2, by simp only [maxLen] at q5; omega, fun _ => ⟨g, rfl, by rw [q2]; exact blkOf_slice q1⟩⟩
 obtain ⟨g, hgg⟩ : ∃ g, 0 < xs.length → a = some ⟨g, 0, none⟩ ∧ blkOf (σ id) = some g := by
  by_cases q : 0 < xs.length
  · obtain ⟨g, h1⟩ := hg q; exact ⟨g, fun _ => h1⟩
  · exact ⟨0, fun h => absurd h q⟩
 have hwalk := task_walk g 0 xs.length cap a (xs.map (fun x => x.1)) t w (by simp) hbig (fun q => (hgg q).1) (fun j hj => hcells g (hgg (by omega)).2 j hj)
 have hgd : ∀ k, k < xs.length → (xs.map (fun x => x.1)).getD k 0 = (xs.getD k (0, [])).1 := fun k hk => by
  rw [List.getD_eq_getElem?_getD, List.getElem?_map, List.getElem?_eq_getElem hk, List.getD_eq_getElem?_getD, List.getElem?_eq_getElem hk]; rfl
 rw [show (rx cx σ N m w).σ id = .slice a xs.length cap from hv]
 refine hwalk.mono ?_
 rintro e2 w' ⟨rfl, ⟨k, hk, ht, hno, rfl⟩ | ⟨hno, rfl⟩⟩
 · obtain ⟨k1, k2⟩ := h.weaken (N' := Nx N fr) (fun id h => h.1)
   have hidx : idxV (fun (x : Tsk) => decide (x.1 = t)) xs = k := idxV_at (d := (0, [])) (fun j hj => by rw [decide_eq_false]; rw [← hgd j (by omega)]; exact hno j hj) hk (by rw [← hgd k hk, decide_eq_true ht])
   refine ⟨_, rfl, true, σ, k1, k2, ?_, ?_⟩
   · show repA _ (.one (.ep id 2 (idxV (fun (x : Tsk) => decide (x.1 = t)) xs) 0)) _
     unfold repA repC
     rw [hidx]
     refine ⟨fun hn => n1 hn.1, g, xs.length, cap, ?_, ?_⟩
     · rw [← (hgg (by omega)).1]; exact hv
     · simp
   · show 0 ≤ idxV (fun (x : Tsk) => decide (x.1 = t)) xs
     rw [hidx]; omega
 · obtain ⟨k1, k2⟩ := h.weaken (N' := Nx N fr) (fun id h => h.1)
   refine ⟨_, rfl, false, σ, k1, k2, ?_, ?_⟩
   · show repA _ (.one .nilp) _
     unfold repA repC
     rfl
   · show idxV (fun (x : Tsk) => decide (x.1 = t)) xs < 0
     rw [idxV_none (d := ((0, []) : Tsk)) fun k hk => by rw [decide_eq_false]; rw [← hgd k hk]; exact hno k hk]
     omega
attribute [go_sem] taskR taskO taskC
structure RRaw where
 rctr : RCtr
def con39 : RRaw := ⟨taskR⟩
theorem c39 : RCtrOk Tryz.prog 39 con39.rctr := taskR_ok
end Go.Proofs.YtomdgacmoeohnaaGreat

/- A part. -/
set_option maxRecDepth 100000
set_option maxHeartbeats 4000000
namespace Go.Proofs.YtomdgacmoeohnaaGreat
open Go.Ev
theorem pw_getD {α : Type} {R : α → α → Prop} (d : α) {l : List α} : l.Pairwise R ↔ ∀ i j, i < j → j < l.length → R (l.getD i d) (l.getD j d) := by
 rw [List.pairwise_iff_getElem]
 constructor
 · intro h i j hij hj
   have := h i j (by omega) hj hij
   simpa [List.getD_eq_getElem?_getD, hj, (by omega : i < l.length)] using this
 · intro h i j hi hj hij
   have := h i j hij hj
   simpa [List.getD_eq_getElem?_getD, hj, hi] using this
theorem getD_pc {l : List Pce} {x : Pce} (h : x ∈ l) : ∃ i, i < l.length ∧ l.getD i pc0 = x := by
 obtain ⟨i, hi, rfl⟩ := List.getElem_of_mem h
 exact ⟨i, hi, by simp [hi]⟩
theorem getD_ct {l : List Cnt} {x : Cnt} (h : x ∈ l) : ∃ i, i < l.length ∧ l.getD i ct0 = x := by
 obtain ⟨i, hi, rfl⟩ := List.getElem_of_mem h
 exact ⟨i, hi, by simp [hi]⟩
structure PcsOk (l : List Pce) : Prop where
 ok : ∀ x ∈ l, okPc x = true
 srt : l.Pairwise (fun a b => pltC a.1 b.1 < 0)
theorem ctErr_iff {c : Cnt} : ctErr c = 0 ↔ propC c = true ∧ c.pcs.length ≤ 60 ∧ PcsOk c.pcs := by
 constructor
 · intro h
   obtain ⟨h1, h2, h3⟩ := ctErr_zero h
   refine ⟨h1, h2, fun x hx => ?_, (pw_getD pc0).2 (pcs_apart h3)⟩
   obtain ⟨i, hi, rfl⟩ := getD_pc hx
   exact (h3 i hi).1
 · rintro ⟨h1, h2, h3⟩
   unfold ctErr
   rw [if_neg (by rw [h1]; simp), if_neg (by omega)]
   refine fErr_ok fun k hk => ?_
   have ho : okPc (c.pcs.getD k pc0) = true := h3.ok _ (getD_mem hk)
   by_cases h0 : k = 0
   · exact pcErr_f ho h0
   · have hl := (pw_getD pc0).1 h3.srt (k - 1) k (by omega) hk
     exact pcErr_0 ho h0 (by omega) (by omega)
structure CtsOk (l : List Cnt) : Prop where
 len : l.length ≤ 24
 ok : ∀ c ∈ l, propC c = true ∧ c.pcs.length ≤ 60 ∧ PcsOk c.pcs
 num : l.Pairwise (fun a b => a.num < b.num)
 pos : l.Pairwise (fun a b => b.pos ≠ 0 → a.pos = b.pos → a.flt ≠ b.flt)
 pl : l.Pairwise (fun a b => ∀ x ∈ a.pcs, ∀ y ∈ b.pcs, x.1 ≠ y.1)
theorem holdsV_iff {c : Cnt} {p : Plt} : holdsV c p = true ↔ ∃ x ∈ c.pcs, x.1 = p := by
 rw [holdsV_in, List.mem_map]
theorem num_apart {l : List Cnt} (h : ∀ i, i < l.length → 0 < i → (l.getD (i - 1) ct0).num < (l.getD i ct0).num) : ∀ j k, j < k → k < l.length → (l.getD j ct0).num < (l.getD k ct0).num := by
 intro j k hjk
 induction k with
 | zero => omega
 | succ k ih =>
   intro hk
   have h1 := h (k + 1) hk (by omega)
   rw [show k + 1 - 1 = k by omega] at h1
   by_cases e : j = k
   · subst e; exact h1
   · exact Int.lt_trans (ih (by omega) (by omega)) h1
theorem checkV_iff {l : List Cnt} : checkV l = 0 ↔ CtsOk l := by
 constructor
 · intro h
   obtain ⟨h1, h2⟩ := checkV_zero h
   have h3 : ∀ i, i < l.length → _ := fun i hi => ckErr_z (h2 i hi)
   refine ⟨h1, fun c hc => ?_, (pw_getD ct0).2 (num_apart fun i hi h0 => (h3 i hi).2.1 h0), (pw_getD ct0).2 fun i j hij hj hp he hf => (h3 j hj).2.2.1 ⟨hp, i, hij, he, hf⟩, (pw_getD ct0).2 fun i j hij hj x hx y hy he => (h3 j hj).2.2.2 ⟨y, hy, i, hij, holdsV_iff.2 ⟨x, hx, he⟩⟩⟩
   obtain ⟨i, hi, rfl⟩ := getD_ct hc
   exact ctErr_iff.1 (h3 i hi).1
 · rintro ⟨h1, h2, h3, h4, h5⟩
   refine checkV_ok (by omega) fun k hk => ?_
   refine ckErr_0 (ctErr_iff.2 (h2 _ (getD_mem hk))) ?_ ?_ ?_
   · rintro ⟨h0, hn⟩
     have := (pw_getD ct0).1 h3 (k - 1) k (by omega) hk
     omega
   · rintro ⟨hp, i, hi, he, hf⟩
     exact (pw_getD ct0).1 h4 i k hi hk hp he hf
   · rintro ⟨y, hy, i, hi, hh⟩
     obtain ⟨x, hx, he⟩ := holdsV_iff.1 hh
     exact (pw_getD ct0).1 h5 i k hi hk x hx y hy he
def setPcs (c : Cnt) (p : List Pce) : Cnt := (c.1, c.2.1, c.2.2.1, c.2.2.2.1, c.2.2.2.2.1, c.2.2.2.2.2.1, c.2.2.2.2.2.2.1, p)
theorem putSls_ct (xs : List Cnt) (yss : List (List Pce)) : putSls yPC yCT xs yss = (xs.zip yss).map (fun q => setPcs q.1 q.2) := by
 unfold putSls
 refine congrArg (fun f => List.map f (xs.zip yss)) (funext fun q => ?_)
 obtain ⟨⟨n, ⟨a1, a2, a3, a4⟩, c, lm, t, p, r, l⟩, ys⟩ := q
 rfl
theorem fltsV_ok (n : Int) : fltOk (fltsV n) = true := by
 have hb := goMod_bd n 27 (by omega)
 have key : ∀ k : Nat, k < 27 → fltOk (strs3.getD ((k : Int) / 9).toNat ByteArray.empty, 1 + (k : Int) / 3 % 3, ByteArray.empty, 1 + (k : Int) % 3) = true := by decide +kernel
 have := key (goMod n 27).toNat (by omega)
 unfold fltsV
 rw [show ((goMod n 27).toNat : Int) = goMod n 27 by omega] at this
 exact this
theorem platesV_lt {a b : Int} (h0 : 0 ≤ a) (h1 : a < b) (h2 : b < 1000) : pltC (platesV a) (platesV b) < 0 := by
 have e : ∀ x : Int, 0 ≤ x → x < 1000 → goMod x 1000 = x := fun x hx hx2 => by
  unfold goMod
  rw [if_neg (by omega), Int.tmod_eq_emod_of_nonneg hx, if_neg (by omega)]; omega
 unfold platesV
 rw [e a h0 (by omega), e b (by omega) h2]
 have ea1 : a.tdiv 500 = a / 500 := Int.tdiv_eq_ediv_of_nonneg h0
 have ea2 : a.tdiv 100 = a / 100 := Int.tdiv_eq_ediv_of_nonneg h0
 have ea3 : a.tmod 100 = a % 100 := Int.tmod_eq_emod_of_nonneg h0
 have ea4 : (a / 100).tmod 5 = a / 100 % 5 := Int.tmod_eq_emod_of_nonneg (by omega)
 have eb1 : b.tdiv 500 = b / 500 := Int.tdiv_eq_ediv_of_nonneg (by omega)
 have eb2 : b.tdiv 100 = b / 100 := Int.tdiv_eq_ediv_of_nonneg (by omega)
 have eb3 : b.tmod 100 = b % 100 := Int.tmod_eq_emod_of_nonneg (by omega)
 have eb4 : (b / 100).tmod 5 = b / 100 % 5 := Int.tmod_eq_emod_of_nonneg (by omega)
 rw [ea1, ea2, ea3, ea4, eb1, eb2, eb3, eb4]
 unfold pltC lexC cmpV
 dsimp only
 (repeat' split) <;> omega
def smallC (l : List Cnt) : Bool := l.all (fun c => decide ((c.pcs.length : Int) ≤ 70)) && decide ((l.length : Int) ≤ 30)
def con4 : Con := { ps := [.d false (.sl yCT)], rs := [.d false .bool], pre := fun _ => True, out := fun (x : List Cnt × Unit) => (smallC x.1, ()), nw := id }
theorem c4 : CtrOk Tryz.prog 4 con4.ctr :=
 con_sound (G := ⟨[], [], [], [], []⟩) tab_ok EnvOk.nil rfl Tryz.func4 rfl con4 33005 (by kernel_rfl) (by decide) (by decide) rfl (by decide) rfl (by
  rintro ⟨(l : List Cnt), _⟩ hpre hwf X hT hG hk hK
  (simp -implicitDefEqProofs only [go_sem, bP, con4, hT, hG, hk, hK, Tryz.results4] at hwf ⊢)
  clear hwf
  refine fun _ => evk_loop ⟨{ i : Nat // i ≤ l.length ∧ ∀ k, k < i → (fun c : Cnt => !decide ((c.pcs.length : Int) ≤ 70)) (l.getD k ct0) = false }, 1000, fun q => [(0, .one (.sl yCT l false)), (5, .one (.int .i64 l.length)), (6, .one (.int .i64 q.1))], fun q => [], fun q => l.length - q.1⟩ ⟨0, by omega, fun k hk => by omega⟩ ?_ ?_
  · simp only [go_sem]
    try first | rfl | (and_intros <;> first | trivial | rfl | omega)
  · rintro ⟨i, (hi : i ≤ l.length), hz⟩
    (simp -implicitDefEqProofs only [go_sem, bP, con4, hT, hG, hk, hK, Tryz.results4])
    obtain ⟨o, ho⟩ : ∃ o, l.getD i ct0 = o := ⟨_, rfl⟩
    have eo : l.getD (i : Int).toNat (0, (ByteArray.empty, 0, ByteArray.empty, 0), 0, 0, 0, 0, 0, []) = o := ho
    simp only [eo]
    (repeat' with_reducible first | refine And.intro ?_ ?_ | intro _) <;> try first | with_reducible (first | assumption | omega | contradiction) | decide
    all_goals first
     | (have h : ((o.pcs.length : Nat) : Int) > 70 := by assumption
        have hm : o ∈ l := by rw [← ho]; exact getD_mem (by omega)
        unfold smallC
        rw [show (l.all fun c => decide ((c.pcs.length : Int) ≤ 70)) = false from List.all_eq_false.2 ⟨o, hm, by rw [decide_eq_true_eq]; omega⟩]; rfl)
     | (have h : ¬ ((o.pcs.length : Nat) : Int) > 70 := by assumption
        refine fin_lp ⟨i + 1, by omega, lt_succ hz (by rw [ho]; show (!decide ((o.pcs.length : Int) ≤ 70)) = false; rw [decide_eq_true (by omega)]; rfl)⟩ (by simp only [go_sem]; first | rfl | ((repeat' apply And.intro) <;> first | rfl | assumption | omega)) (by dsimp only; omega)
        done)
     | (unfold smallC
        rw [show (l.all fun c => decide ((c.pcs.length : Int) ≤ 70)) = true from List.all_eq_true.2 fun x hx => ?_]; rfl
        obtain ⟨k, hkk, rfl⟩ := mem_getD (d := ct0) hx
        have := hz k (by omega)
        simpa using this)
     | fail)
theorem smallC_of {l : List Cnt} (h : smallC l = true) : (∀ c ∈ l, c.pcs.length ≤ 70) ∧ l.length ≤ 30 := by
 unfold smallC at h
 rw [Bool.and_eq_true, List.all_eq_true, decide_eq_true_eq] at h
 exact ⟨fun c hc => by have := h.1 c hc; rw [decide_eq_true_eq] at this; omega, by omega⟩
end Go.Proofs.YtomdgacmoeohnaaGreat

/- A part. -/
namespace Go.Ev
open Go.Proofs (encStr)
variable {cx : Cx} {σ : Nat → Value} {N : Nat → Prop} {m : Mem} {w : World} {P : Program}
def bytesOf (s : ByteArray) : List UInt8 := s.data.toList
def sortK (xs : List ByteArray) : List ByteArray := ((xs.map bytesOf).mergeSort leB).map fun l => ⟨l.toArray⟩
structure Raw where
 ctr : Ctr
def keysCtr (tb : TypeId) (g : FuncId) : Ctr := fun avs m fr => match avs with
 | [.one (.map id)] => (match m id with
   | .mapb .. => ⟨True, .one (.fn g [.loc fr 0]), [(fr, .cells tb [.map id])], True⟩
   | _ => bad)
 | _ => bad
def skEff (e : TypeId) (fr : Nat) : Blk → Eff
 | .mapb .str vt false va l => if stq .str vt = true then ⟨l.length ≤ 1000000, .one (.row fr), [(fr, .row e .str (sortK (l.map Prod.fst)))], True⟩ else bad
 | _ => bad
def sortedCtr (g : FuncId) (tb e : TypeId) : Ctr := fun avs m fr => match avs with
 | [.one (.fn g' [.loc i 0])] => (match m i with
   | .cells tb' [.map im] => if g' = g ∧ tb' = tb then skEff e fr (m im) else bad
   | _ => bad)
 | _ => bad
attribute [go_sem] keysCtr sortedCtr skEff stq
end Go.Ev

/- A part. -/
set_option maxRecDepth 100000
set_option maxHeartbeats 8000000
namespace Go.Proofs.YtomdgacmoeohnaaGreat
open Go.Ev
attribute [local go_sem] List.set_cons_succ List.set_cons_zero List.getD_cons_succ List.getD_cons_zero List.set_nil
def three0 : List Cnt := [(3, fltsV 0, 31, 90, 9, 1, 0, []), (5, fltsV 0, 31, 90, 9, 2, 0, []), (8, fltsV 0, 31, 90, 9, 3, 0, [])]
def three3 : List Cnt := [(3, fltsV 0, 31, 90, 9, 1, 0, []), (5, fltsV 0, 31, 90, 9, 2, 0, [(platesV 1, 20, 0)]), (8, fltsV 0, 31, 90, 9, 3, 0, [])]
def con59 : Con := { ps := [], rs := [.d false (.sl yCT)], pre := fun _ => True, out := fun _ => (three3, ()), nw := id }
theorem c59 : CtrOk Tryz.prog 59 con59.ctr :=
 con_sound (G := ⟨[(25, con25.ctr), (27, con27.ctr)], [], [], [], []⟩) tab_ok (EnvOk.cons c25 has25 (EnvOk.cons c27 has27 EnvOk.nil)) rfl Tryz.func59 rfl con59 255 (by kernel_rfl) (by decide) (by decide) rfl (by decide) rfl (by
  rintro _ hpre hwf X hT hG hk hK
  (simp -implicitDefEqProofs only [go_sem, bP, con59, con25, con27, hT, hG, hk, hK, Tryz.results59] at hwf ⊢)
  refine fun _ => evk_loop ⟨{ i : Nat // i ≤ 3 }, 1000, fun q => [(1, .one (.row 64)), (4, .one (.row 65)), (5, .one (.int .i64 3)), (6, .one (.int .i64 q.1))], fun q => [(64, .row 61 yCT (three0.take q.1)), (65, .row 3 (.int .i64) [3, 5, 8])], fun q => 3 - q.1⟩ ⟨0, by omega⟩ ?_ ?_
  · simp only [go_sem]
    try first | rfl | (and_intros <;> first | trivial | rfl | omega)
  · rintro ⟨i, (hi : i ≤ 3)⟩
    have h4 : i = 0 ∨ i = 1 ∨ i = 2 ∨ i = 3 := by omega
    rcases h4 with rfl | rfl | rfl | rfl
    all_goals
     (simp -implicitDefEqProofs only [go_sem, bP, con59, con25, con27, hT, hG, hk, hK, Tryz.results59])
     (repeat' with_reducible first | refine And.intro ?_ ?_ | intro _) <;> try first | with_reducible (first | assumption | omega | contradiction) | decide
     all_goals first
      | (refine fin_lp ⟨1, by omega⟩ ?_ (by dsimp only; omega)
         simp only [go_sem]
         try first | rfl | (and_intros <;> first | trivial | rfl | omega)
         done)
      | (refine fin_lp ⟨2, by omega⟩ ?_ (by dsimp only; omega)
         simp only [go_sem]
         try first | rfl | (and_intros <;> first | trivial | rfl | omega)
         done)
      | (refine fin_lp ⟨3, by omega⟩ ?_ (by dsimp only; omega)
         simp only [go_sem]
         try first | rfl | (and_intros <;> first | trivial | rfl | omega)
         done)
      | rfl
      | (exfalso; omega)
      | decide
      | fail)
theorem find_at {α : Type} {p : α → Bool} {l : List α} {d : α} {i : Nat} (hz : ∀ k, k < i → p (l.getD k d) = false) (hi : i < l.length) (h : p (l.getD i d) = true) : l.find? p = some (l.getD i d) := by
 rw [List.find?_eq_some_iff_getElem]
 refine ⟨h, i, hi, (getD_lt hi).symm, fun j hj => ?_⟩
 have := hz j hj
 rw [getD_lt (by omega)] at this
 rw [this]; rfl
theorem find_no {α : Type} {p : α → Bool} {l : List α} {d : α} (hz : ∀ k, k < l.length → p (l.getD k d) = false) : l.find? p = none := by
 rw [List.find?_eq_none]
 intro x hx
 obtain ⟨k, hk, rfl⟩ := List.mem_iff_getElem.1 hx
 have := hz k hk
 rw [getD_lt hk] at this
 rw [this]; simp
theorem idx_any {α : Type} (p : α → Bool) (l : List α) (d : α) : decide (idxV p l ≥ 0) = l.any p := by
 by_cases h : 0 ≤ idxV p l
 · obtain ⟨h1, h2, _⟩ := idxV_spec (d := d) h
   rw [decide_eq_true h, List.any_eq_true.2 ⟨_, getD_mem h1, h2⟩]
 · have := idxV_neg (p := p) (l := l) (by omega)
   rw [decide_eq_false h, eq_comm, List.any_eq_false]
   intro x hx
   rw [this x hx]; simp
def candV (c : List Cnt) (l : List Plm) (p : Plt) : List Int := match l.find? (fun x => decide (x.1.1 = p)) with
 | some x => x.2.2
 | none => if (findV c p).2 = true then [(findV c p).1] else []
def con37 : Con := { ps := [.d false (.sl yCT), .d false (.sl yPM), .d true yPL], rs := [.d false (.sl (.int .i64))], pre := fun _ => True, out := fun (x : List Cnt × List Plm × Plt × Unit) => (candV x.1 x.2.1 x.2.2.1, ()), nw := id }
theorem c37 : CtrOk Tryz.prog 37 con37.ctr :=
 con_sound (G := ⟨[(50, con50.ctr)], [], [], [], []⟩) tab_ok (EnvOk.cons c50 has50 EnvOk.nil) rfl Tryz.func37 rfl con37 2149613415 (by kernel_rfl) (by decide) (by decide) rfl (by decide) rfl (by
  rintro ⟨(c : List Cnt), (l : List Plm), ⟨(p1 : Int), (p2 : Int), (p3 : Int)⟩, _⟩ hpre hwf X hT hG hk hK
  (simp -implicitDefEqProofs only [go_sem, bP, con37, con50, hT, hG, hk, hK, Tryz.results37] at hwf ⊢)
  clear hwf
  refine fun _ => evk_loop ⟨{ i : Nat // i ≤ l.length ∧ ∀ k, k < i → (fun x : Plm => decide (x.1.1 = ((p1, p2, p3) : Plt))) (l.getD k pm0) = false }, 1000, fun q => [(0, .one (.sl yCT c false)), (5, .one (.loc 70 0)), (11, .one (.sl yPM l false)), (12, .one (.int .i64 l.length)), (13, .one (.int .i64 q.1))], fun q => [(70, .cells 41 [.int .i64 p1, .int .i64 p2, .int .i64 p3])], fun q => l.length - q.1⟩ ⟨0, by omega, fun k hk => by omega⟩ ?_ ?_
  · simp only [go_sem]
    try first | rfl | (and_intros <;> first | trivial | rfl | omega)
  · rintro ⟨i, (hi : i ≤ l.length), hz⟩
    (simp -implicitDefEqProofs only [go_sem, bP, con37, con50, hT, hG, hk, hK, Tryz.results37])
    obtain ⟨o, ho⟩ : ∃ o, l.getD i pm0 = o := ⟨_, rfl⟩
    have eo : l.getD (i : Int).toNat (((0, 0, 0), 0, 0), 0, []) = o := ho
    try simp only [eo]
    (repeat' with_reducible first | refine And.intro ?_ ?_ | intro _) <;> try first | with_reducible (first | assumption | omega | contradiction) | decide
    all_goals first
     | (have h : o.1.1.1 = p1 ∧ o.1.1.2.1 = p2 ∧ o.1.1.2.2 = p3 := by assumption
        have e := find_at (p := fun x : Plm => decide (x.1.1 = ((p1, p2, p3) : Plt))) (d := pm0) hz (by omega) (by show decide ((l.getD i pm0).1.1 = _) = true; rw [ho]; exact decide_eq_true ((pltE o.1.1 (p1, p2, p3)).mp h))
        unfold candV; rw [e]; show _ = (l.getD i pm0).2.2; rw [ho])
     | (have h : ¬ o.1.1.1 = p1 ∨ ¬ o.1.1.2.1 = p2 ∨ ¬ o.1.1.2.2 = p3 := by assumption
        refine fin_lp ⟨i + 1, by omega, lt_succ hz (by show decide ((l.getD i pm0).1.1 = _) = false; rw [ho]; exact decide_eq_false ((pltN o.1.1 (p1, p2, p3)).mp h))⟩ (by simp only [go_sem]; first | rfl | ((repeat' apply And.intro) <;> first | rfl | assumption | omega)) (by dsimp only; omega)
        done)
     | (have e := find_no (p := fun x : Plm => decide (x.1.1 = ((p1, p2, p3) : Plt))) (d := pm0) fun k hk => hz k (by omega)
        unfold candV; rw [e]; dsimp only
        first | (rw [if_pos (by assumption)]; done) | (rw [if_neg (by simp [*])]; done))
     | fail)
def con77 : Con := { ps := [.d false (.sl yPL), .d true yPL], rs := [.d false (.int .i64)], pre := fun _ => True, out := fun (x : List Plt × Plt × Unit) => (idxV (fun y => decide (y = x.2.1)) x.1, ()), nw := id }
theorem c77 : CtrOk Tryz.prog 77 con77.ctr :=
 con_sound (G := ⟨[], [], [], [], []⟩) tab_ok EnvOk.nil rfl Tryz.func77 rfl con77 66491 (by kernel_rfl) (by decide) (by decide) rfl (by decide) rfl (by
  rintro ⟨(l : List Plt), ⟨(p1 : Int), (p2 : Int), (p3 : Int)⟩, _⟩ hpre hwf X hT hG hk hK
  (simp -implicitDefEqProofs only [go_sem, bP, con77, hT, hG, hk, hK, Tryz.results77] at hwf ⊢); (try simp (disch := decide +kernel) only [drawn, true_and, and_true])
  clear hwf
  refine fun _ => evk_loop ⟨{ i : Nat // i ≤ l.length ∧ ∀ k, k < i → (fun x : Plt => decide (x = ((p1, p2, p3) : Plt))) (l.getD k pl0) = false }, 1000, fun q => [(0, .one (.sl yPL l false)), (3, .one (.loc 70 0)), (7, .one (.int .i64 l.length)), (8, .one (.int .i64 q.1))], fun q => [(70, .cells 41 [.int .i64 p1, .int .i64 p2, .int .i64 p3])], fun q => l.length - q.1⟩ ⟨0, by omega, fun k hk => by omega⟩ ?_ ?_
  · simp only [go_sem]
    try first | rfl | (and_intros <;> first | trivial | rfl | omega)
  · rintro ⟨i, (hi : i ≤ l.length), hz⟩
    (simp -implicitDefEqProofs only [go_sem, bP, con77, hT, hG, hk, hK, Tryz.results77]); (try simp (disch := decide +kernel) only [drawn, true_and, and_true])
    obtain ⟨o, ho⟩ : ∃ o, l.getD i pl0 = o := ⟨_, rfl⟩
    have eo : l.getD (i : Int).toNat (0, 0, 0) = o := ho
    try simp only [eo]
    (repeat' with_reducible first | refine And.intro ?_ ?_ | intro _) <;> try first | with_reducible (first | assumption | omega | contradiction) | decide
    all_goals first
     | (have h : p1 = o.1 ∧ p2 = o.2.1 ∧ p3 = o.2.2 := by assumption
        exact (idxV_at (d := pl0) hz (by omega) (by show decide (l.getD i pl0 = _) = true; rw [ho]; exact decide_eq_true ((pltE (p1, p2, p3) o).mp h).symm)).symm)
     | (have h : ¬ p1 = o.1 ∨ ¬ p2 = o.2.1 ∨ ¬ p3 = o.2.2 := by assumption
        refine fin_lp ⟨i + 1, by omega, lt_succ hz (by show decide (l.getD i pl0 = _) = false; rw [ho]; exact decide_eq_false (fun e => (pltN (p1, p2, p3) o).mp h e.symm))⟩ (by simp only [go_sem]; first | rfl | ((repeat' apply And.intro) <;> first | rfl | assumption | omega)) (by dsimp only; omega)
        done)
     | exact (idxV_none (d := pl0) fun k hk => hz k (by omega)).symm
     | fail)
def con40 : Con := { ps := [.d false (.sl yPL), .d true yPL], rs := [.d false .bool], pre := fun _ => True, out := fun (x : List Plt × Plt × Unit) => (x.1.any (fun y => decide (y = x.2.1)), ()), nw := id }
theorem c40 : CtrOk Tryz.prog 40 con40.ctr :=
 con_sound (G := ⟨[(77, con77.ctr)], [], [], [], []⟩) tab_ok (EnvOk.cons c77 has77 EnvOk.nil) rfl Tryz.func40 rfl con40 27 (by kernel_rfl) (by decide) (by decide) rfl (by decide) rfl (by
  rintro ⟨(l : List Plt), ⟨(p1 : Int), (p2 : Int), (p3 : Int)⟩, _⟩ hpre hwf X hT hG hk hK
  (simp -implicitDefEqProofs only [go_sem, bP, con40, con77, hT, hG, hk, hK, Tryz.results40] at hwf ⊢)
  intro _
  exact idx_any _ l pl0)
def conCtN : Go.Ev.Raw := ⟨nstB con40.ctr⟩
theorem cCtN : CtrOk Tryz.prog 40 conCtN.ctr := nst_ok c40
end Go.Proofs.YtomdgacmoeohnaaGreat

/- A part. -/
set_option maxRecDepth 100000
set_option maxHeartbeats 8000000
namespace Go.Proofs.YtomdgacmoeohnaaGreat
open Go.Ev
attribute [local go_sem] List.set_cons_succ List.set_cons_zero List.getD_cons_succ List.getD_cons_zero List.set_nil
def tk0 : Tsk := (0, [])
def addT (o : List Tsk) (p : Plt) (n : Int) : List Tsk :=
 if idxV (fun (t : Tsk) => decide (t.1 = n)) o < 0 then o ++ [(n, [p])]
 else o.set (idxV (fun (t : Tsk) => decide (t.1 = n)) o).toNat ((o.getD (idxV (fun (t : Tsk) => decide (t.1 = n)) o).toNat tk0).1, if (o.getD (idxV (fun (t : Tsk) => decide (t.1 = n)) o).toNat tk0).2.any (fun y => decide (y = p)) = true then (o.getD (idxV (fun (t : Tsk) => decide (t.1 = n)) o).toNat tk0).2 else (o.getD (idxV (fun (t : Tsk) => decide (t.1 = n)) o).toNat tk0).2 ++ [p])
def addL (o : List Tsk) (p : Plt) (ns : List Int) : List Tsk := ns.foldl (fun o n => addT o p n) o
def tskL (c : List Cnt) (l : List Plm) (ps : List Plt) : List Tsk := ps.foldl (fun o p => addL o p (candV c l p)) []
def sortT (l : List Tsk) : List Tsk := l.mergeSort (fun a b => decide (a.1 ≤ b.1))
def lostV (c : List Cnt) (l : List Plm) (p : Plt) : Bool := (candV c l p).any (fun n => decide (numIdx c n < 0))
def searchV (c : List Cnt) (l : List Plm) (w : List Plt) : List Tsk × Int :=
 if checkV c ≠ 0 then ([], checkV c) else if wantE w ≠ 0 then ([], wantE w) else if (sortBy pltC w).any (lostV c l) = true then ([], 6) else (sortT (tskL c l (sortBy pltC w)), 0)
def TkB (o : List Tsk) (r : Nat) : Prop := o.length ≤ r ∧ ∀ t ∈ o, t.2.length ≤ r
theorem addT_b {o : List Tsk} {p : Plt} {n : Int} {r : Nat} (h : TkB o r) : TkB (addT o p n) (r + 1) := by
 obtain ⟨h1, h2⟩ := h
 unfold addT
 split
 · refine ⟨by rw [List.length_append, List.length_singleton]; omega, fun t ht => ?_⟩
   rcases List.mem_append.1 ht with h | h
   · have := h2 t h; omega
   · rw [List.mem_singleton.1 h]; show [p].length ≤ r + 1; simp
 · rename_i hi
   obtain ⟨g1, _, _⟩ := idxV_spec (d := tk0) (p := fun (t : Tsk) => decide (t.1 = n)) (l := o) (by omega)
   have hm := h2 _ (getD_mem (d := tk0) g1)
   refine ⟨by rw [List.length_set]; omega, fun t ht => ?_⟩
   rcases List.mem_or_eq_of_mem_set ht with h | h
   · have := h2 t h; omega
   · rw [h]
     show (if _ then _ else _ : List Plt).length ≤ r + 1
     split
     · omega
     · rw [List.length_append, List.length_singleton]; omega
theorem addL_b {p : Plt} : ∀ (ns : List Int) {o : List Tsk} {r : Nat}, TkB o r → TkB (addL o p ns) (r + ns.length)
 | [], o, r, h => h
 | n :: ns, o, r, h => by
   have := addL_b (p := p) ns (addT_b (p := p) (n := n) h)
   rw [List.length_cons, show r + (ns.length + 1) = r + 1 + ns.length by omega]
   exact this
theorem TkB.mono {o : List Tsk} {r s : Nat} (h : TkB o r) (hs : r ≤ s) : TkB o s := ⟨Nat.le_trans h.1 hs, fun t ht => Nat.le_trans (h.2 t ht) hs⟩
theorem candV_len {c : List Cnt} {l : List Plm} (h : ∀ x ∈ l, x.2.2.length ≤ 1000) (p : Plt) : (candV c l p).length ≤ 1000 := by
 unfold candV
 split
 · rename_i x hx; exact h x (List.mem_of_find?_eq_some hx)
 · split <;> simp
theorem tskL_b {c : List Cnt} {l : List Plm} (h : ∀ x ∈ l, x.2.2.length ≤ 1000) (ps : List Plt) : TkB (tskL c l ps) (ps.length * 1000) := by
 have key : ∀ (ps : List Plt) (o : List Tsk) (r : Nat), TkB o r → TkB (ps.foldl (fun o p => addL o p (candV c l p)) o) (r + ps.length * 1000) := by
  intro ps
  induction ps with
  | nil => intro o r h; simpa using h
  | cons p ps ih =>
    intro o r ho
    have h1 := addL_b (p := p) (candV c l p) ho
    have h2 := ih _ _ (h1.mono (Nat.add_le_add_left (candV_len h p) r))
    rw [List.length_cons, show r + (ps.length + 1) * 1000 = r + 1000 + ps.length * 1000 by omega]
    exact h2
 have := key ps [] 0 ⟨Nat.le_refl _, fun t ht => by cases ht⟩
 rwa [Nat.zero_add] at this
theorem tskL_snoc (c : List Cnt) (l : List Plm) (ps : List Plt) (p : Plt) : tskL c l (ps ++ [p]) = addL (tskL c l ps) p (candV c l p) := by
 unfold tskL; rw [List.foldl_append]; rfl
theorem addL_snoc (o : List Tsk) (p : Plt) (ns : List Int) (n : Int) : addL o p (ns ++ [n]) = addT (addL o p ns) p n := by
 unfold addL; rw [List.foldl_append]; rfl
def TkN (o : List Tsk) : Prop := (o.map (fun t => t.1)).Nodup
theorem addT_n {o : List Tsk} {p : Plt} {n : Int} (h : TkN o) : TkN (addT o p n) := by
 unfold addT
 split
 · rename_i hi
   have := idxV_neg hi
   unfold TkN at h ⊢
   rw [List.map_append, List.nodup_append]
   refine ⟨h, by simp, fun a ha b hb => ?_⟩
   obtain ⟨t, ht, rfl⟩ := List.mem_map.1 ha
   have hb : b = n := by simpa using hb
   have := this t ht
   rw [hb]; exact of_decide_eq_false this
 · unfold TkN at h ⊢
   rw [List.map_set]
   have : (o.map (fun t : Tsk => t.1)).set (idxV (fun (t : Tsk) => decide (t.1 = n)) o).toNat (o.getD (idxV (fun (t : Tsk) => decide (t.1 = n)) o).toNat tk0).1 = o.map (fun t => t.1) := by
    apply List.ext_getElem?
    intro i
    rw [List.getElem?_set]
    split
    · rename_i e
      subst e
      split
      · rename_i hl
        rw [List.length_map] at hl
        rw [List.getElem?_map, List.getElem?_eq_getElem hl, getD_lt hl]; rfl
      · rename_i hl
        rw [List.getElem?_eq_none (by omega)]
    · rfl
   rw [this]; exact h
theorem addL_n {p : Plt} : ∀ (ns : List Int) {o : List Tsk}, TkN o → TkN (addL o p ns)
 | [], o, h => h
 | n :: ns, o, h => addL_n ns (addT_n h)
theorem tskL_n (c : List Cnt) (l : List Plm) (ps : List Plt) : TkN (tskL c l ps) := by
 have key : ∀ (ps : List Plt) (o : List Tsk), TkN o → TkN (ps.foldl (fun o p => addL o p (candV c l p)) o) := by
  intro ps
  induction ps with
  | nil => intro o h; exact h
  | cons p ps ih => intro o ho; exact ih _ (addL_n _ ho)
 exact key ps [] .nil
theorem sortT_eq {l z : List Tsk} (hn : TkN l) (hp : z.Perm l) (hs : z.Pairwise (fun a b => ¬ cmpV b.1 a.1 < 0)) : z = sortT l := by
 have hc : ∀ a b : Int, ¬ cmpV b a < 0 → a ≤ b := fun a b h => by
  unfold cmpV at h
  apply Classical.byContradiction
  intro q
  rw [if_pos (by omega)] at h; omega
 refine List.Perm.eq_of_pairwise (le := fun a b : Tsk => a.1 ≤ b.1) (fun a b ha hb h1 h2 => ?_) (hs.imp fun h => hc _ _ h) ?_ (hp.trans (List.mergeSort_perm l _).symm)
 · have ha := hp.subset ha
   have hb := (List.mergeSort_perm l _).subset hb
   have e : a.1 = b.1 := by omega
   obtain ⟨i, hi, rfl⟩ := List.mem_iff_getElem.1 ha
   obtain ⟨j, hj, rfl⟩ := List.mem_iff_getElem.1 hb
   have : i = j := by
    unfold TkN at hn
    exact (List.getElem_inj (h₀ := by simpa using hi) (h₁ := by simpa using hj) hn).1 (by simpa using e)
   subst this; rfl
 · have := List.pairwise_mergeSort (le := fun a b : Tsk => decide (a.1 ≤ b.1)) (fun a b d h1 h2 => by simp at *; omega) (fun a b => by simp; omega) l
   exact this.imp (fun h => by simpa using h)
def con42 : Con := { ps := [.d true yTK, .d true yTK], rs := [.d false (.int .i64)], pre := fun _ => True, out := fun (x : Tsk × Tsk × Unit) => (cmpV x.1.1 x.2.1.1, ()), nw := id }
theorem c42 : CtrOk Tryz.prog 42 con42.ctr :=
 con_sound (G := ⟨[(43, con43.ctr)], [], [], [], []⟩) tab_ok (EnvOk.cons c43 has43 EnvOk.nil) rfl Tryz.func42 rfl con42 31 (by kernel_rfl) (by decide) (by decide) rfl (by decide) rfl (by
  rintro ⟨⟨(a : Int), (b : List Plt)⟩, ⟨(c : Int), (d : List Plt)⟩, _⟩ hpre hwf X hT hG hk hK
  (simp -implicitDefEqProofs only [go_sem, bP, con42, con43, hT, hG, hk, hK, Tryz.results42] at hwf ⊢))
def con41 : RCon := sortFCon 27 yTK 42 (fun (a b : Tsk) => cmpV a.1 b.1)
theorem swoT : Go.Sort.SWO (fun (x y : Tsk) => decide (cmpV x.1 y.1 < 0)) := by
 obtain ⟨h1, h2, h3⟩ := cmpV_cmp.swo
 exact ⟨fun x => h1 x.1, fun x y z => h2 x.1 y.1 z.1, fun x y z => h3 x.1 y.1 z.1⟩
theorem c41 : RCtrOk Tryz.prog 41 con41.rctr := sort_func (e := 27) (t := yTK) Tryz.sortT (by decide) Tryz.isAgg27 Tryz.sizeOf27 (hS := by unfold StrictP; rw [← Array.all_toList]; kernel_rfl) (c := fun (a b : Tsk) => cmpV a.1 b.1) c42 has42 swoT
def conSrS : RRaw := ⟨sealR con41.rctr⟩
theorem cSrS : RCtrOk Tryz.prog 41 conSrS.rctr := sealR_ok c41
theorem putSls_tk : ∀ (o : List Tsk), putSls yPL yTK (o.map (fun t => ((t.1, []) : Tsk))) (o.map (fun t => t.2)) = o
 | [] => rfl
 | t :: o => by
   have := putSls_tk o
   unfold putSls at this ⊢
   rw [List.map_cons, List.map_cons, List.zip_cons_cons, List.map_cons, this]
   rfl
theorem idxV_mapT (n : Int) (o : List Tsk) : idxV (fun (t : Tsk) => decide (t.1 = n)) (o.map (fun t => ((t.1, []) : Tsk))) = idxV (fun (t : Tsk) => decide (t.1 = n)) o := by
 unfold idxV
 rw [List.findIdx?_map]
 rfl
theorem tk_set1 {P : List Tsk} {k : Nat} (hk : k < P.length) (x : List Plt) : (P.set k ((P.getD k tk0).1, x)).map (fun t => ((t.1, []) : Tsk)) = P.map (fun t => ((t.1, []) : Tsk)) := by
 rw [List.map_set]
 apply List.ext_getElem?
 intro i
 rw [List.getElem?_set]
 split
 · rename_i e
   subst e
   rw [List.length_map, if_pos hk, List.getElem?_map, List.getElem?_eq_getElem hk, getD_lt hk]; rfl
 · rfl
theorem tk_set2 (P : List Tsk) (k : Nat) (a : Int) (x : List Plt) : (P.set k (a, x)).map (fun t => t.2) = (P.map (fun t => t.2)).set k x := by rw [List.map_set]
theorem tk_set3 {P : List Tsk} {k : Nat} (hk : k < P.length) : P.set k ((P.getD k tk0).1, (P.getD k tk0).2) = P := by
 rw [getD_lt hk]; exact List.set_getElem_self hk
theorem tk_get {P : List Tsk} {k : Nat} (hk : k < P.length) : (P.map (fun t => t.2)).getD k [] = (P.getD k tk0).2 := by
 rw [List.getD_eq_getElem?_getD, List.getElem?_map, List.getElem?_eq_getElem hk, getD_lt hk]; rfl
theorem tk_end (P : List Tsk) : (P.map (fun t => t.2) ++ [([] : List Plt)]).getD P.length [] = [] := by
 rw [List.getD_eq_getElem?_getD, List.getElem?_append_right (by rw [List.length_map]; exact Nat.le_refl _), List.length_map, Nat.sub_self]; rfl
theorem tk_end2 (P : List Tsk) (x : List Plt) : (P.map (fun t => t.2) ++ [([] : List Plt)]).set P.length x = P.map (fun t => t.2) ++ [x] := by
 rw [List.set_append_right _ _ (by rw [List.length_map]; exact Nat.le_refl _), List.length_map, Nat.sub_self]; rfl
def con13 : Con := { ps := [.d false (.sl yCT), .d false (.sl yPM), .d false (.sl yPL)], rs := [.d false (.sl yTK), .d false (.int .i64)], pre := fun (x : List Cnt × List Plm × List Plt × Unit) => x.2.2.1.length ≤ 1000 ∧ ∀ y ∈ x.2.1, y.2.2.length ≤ 1000, out := fun (x : List Cnt × List Plm × List Plt × Unit) => ((searchV x.1 x.2.1 x.2.2.1).1, (searchV x.1 x.2.1 x.2.2.1).2, ()), nw := id }
attribute [local go_sem] nstB
theorem c13 : CtrOk Tryz.prog 13 con13.ctr :=
 con_sound (G := ⟨[(32, con32.ctr), (33, con33.ctr), (35, con35.ctr), (34, con34.ctr), (37, con37.ctr), (38, con38.ctr), (40, conCtN.ctr)], [(39, con39.rctr), (41, conSrS.rctr)], [(10, 49), (55, 49), (65, 10), (73, 5)], [], []⟩) tab_ok (EnvOk.cons c32 has32 (EnvOk.cons c33 has33 (EnvOk.cons c35 has35 (EnvOk.cons c34 has34 (EnvOk.cons c37 has37 (EnvOk.cons c38 has38 (EnvOk.cons cCtN has40 (EnvOk.rcons c39 has39 (EnvOk.rcons cSrS has41 EnvOk.nil))))))))) rfl Tryz.func13 rfl con13 295150229413538879431 (by kernel_rfl) (by decide) (by decide) rfl (by decide) rfl (by
  rintro ⟨(c : List Cnt), (l : List Plm), (w : List Plt), _⟩ hpre hwf X hT hG hk hK
  obtain ⟨hw, hl⟩ : w.length ≤ 1000 ∧ ∀ y ∈ l, y.2.2.length ≤ 1000 := hpre
  (simp -implicitDefEqProofs only [go_sem, bP, con13, con32, con33, con35, con34, con37, con38, conCtN, con39, conSrS, hT, hG, hk, hK, Tryz.results13, con40, con41, sortFCon] at hwf ⊢); (try simp (disch := decide +kernel) only [drawn, true_and, and_true])
  clear hwf
  intro _
  refine ⟨fun h => ?_, fun h => ⟨by omega, fun _ => ⟨fun h2 => ?_, fun h2 _ => ⟨by omega, fun _ _ => ?_⟩⟩⟩⟩
  · have e : searchV c l w = ([], checkV c) := by unfold searchV; rw [if_pos h]
    rw [e]; exact ⟨rfl, rfl⟩
  · have e : searchV c l w = ([], wantE w) := by unfold searchV; rw [if_neg (by omega), if_pos h2]
    rw [e]; exact ⟨rfl, rfl⟩
  have hSl : (sortBy pltC w).length = w.length := (sortBy_perm pltC w).length_eq
  have hsv : (sortBy pltC w).any (lostV c l) = true → searchV c l w = ([], 6) := fun q => by unfold searchV; rw [if_neg (by omega), if_neg (by omega), if_pos q]
  have hsn : ¬ (sortBy pltC w).any (lostV c l) = true → searchV c l w = (sortT (tskL c l (sortBy pltC w)), 0) := fun q => by unfold searchV; rw [if_neg (by omega), if_neg (by omega), if_neg q]
  generalize sortBy pltC w = S at hSl hsv hsn ⊢
  refine evk_loop ⟨{ i : Nat // i ≤ S.length ∧ ∀ k, k < i → lostV c l (S.getD k pl0) = false }, 1000, fun q => [(0, .one (.sl yCT c false)), (1, .one (.sl yPM l false)), (10, .one (.row 64)), (28, .one (.row 66)), (29, .one (.int .i64 S.length)), (30, .one (.int .i64 q.1))],
   fun q => [(64, .rowg 27 yTK 1 65 ((tskL c l (S.take q.1)).map (fun t => ((t.1, []) : Tsk))) none), (65, .fam 41 yPL ((tskL c l (S.take q.1)).map (fun t => t.2))), (66, .row 41 yPL S)], fun q => S.length - q.1⟩ ⟨0, Nat.zero_le _, fun k hk => by omega⟩ ?_ ?_
  · simp only [go_sem]
    try first | rfl | (and_intros <;> first | trivial | rfl | omega)
  · rintro ⟨i, (hi : i ≤ S.length), hz⟩
    (simp -implicitDefEqProofs only [go_sem, bP, con13, con32, con33, con35, con34, con37, con38, conCtN, con39, conSrS, hT, hG, hk, hK, Tryz.results13, con40, con41, sortFCon]); (try simp (disch := decide +kernel) only [drawn, true_and, and_true])
    obtain ⟨o, ho⟩ : ∃ o, S.getD i pl0 = o := ⟨_, rfl⟩
    have eo : S.getD (i : Int).toNat (0, 0, 0) = o := ho
    try simp only [eo]
    have hb0 := (tskL_b (c := c) hl (S.take i)).mono (s := i * 1000) (by rw [List.length_take]; exact Nat.mul_le_mul_right _ (Nat.min_le_left _ _))
    refine ⟨fun hlt => ⟨⟨by omega, hlt⟩, fun _ => ⟨⟨by omega, hlt⟩, fun _ _ _ => ?_⟩⟩, fun hge => ?_⟩
    · have hcl := candV_len (c := c) hl o
      have hlo : lostV c l o = (candV c l o).any (fun n => decide (numIdx c n < 0)) := rfl
      have hts : S.take (i + 1) = S.take i ++ [o] := by rw [List.take_succ_eq_append_getElem (by omega), ← getD_lt (d := pl0) (by omega), ho]
      have hnx := tskL_snoc c l (S.take i) o
      rw [← hts] at hnx
      have hlost : lostV c l o = true → searchV c l w = ([], 6) := fun q => hsv (List.any_eq_true.2 ⟨o, by rw [← ho]; exact getD_mem (by omega), q⟩)
      generalize candV c l o = ns at hcl hlo hnx ⊢
      generalize tskL c l (S.take i) = O at hb0 hnx ⊢
      refine evk_loop ⟨{ j : Nat // j ≤ ns.length ∧ ∀ k, k < j → ¬ numIdx c (ns.getD k 0) < 0 }, 2000, fun q => [(0, .one (.sl yCT c false)), (1, .one (.sl yPM l false)), (10, .one (.row 64)), (28, .one (.row 66)), (29, .one (.int .i64 S.length)), (30, .one (.int .i64 i)), (12, .one (.loc 67 0)), (37, .one (.sl (.int .i64) ns false)), (38, .one (.int .i64 ns.length)), (39, .one (.int .i64 q.1))],
       fun q => [(64, .rowg 27 yTK 1 65 ((addL O o (ns.take q.1)).map (fun t => ((t.1, []) : Tsk))) none), (65, .fam 41 yPL ((addL O o (ns.take q.1)).map (fun t => t.2))), (66, .row 41 yPL S), (67, .cells 41 [.int .i64 o.1, .int .i64 o.2.1, .int .i64 o.2.2])], fun q => ns.length - q.1⟩ ⟨0, Nat.zero_le _, fun k hk => by omega⟩ ?_ ?_
      · simp only [go_sem]
        try first | rfl | (and_intros <;> first | trivial | rfl | omega)
      · rintro ⟨j, (hj : j ≤ ns.length), hzj⟩
        (simp -implicitDefEqProofs only [go_sem, bP, con13, con32, con33, con35, con34, con37, con38, conCtN, con39, conSrS, hT, hG, hk, hK, Tryz.results13, con40, con41, sortFCon]); (try simp (disch := decide +kernel) only [drawn, true_and, and_true])
        obtain ⟨n, hn⟩ : ∃ n, ns.getD j 0 = n := ⟨_, rfl⟩
        have en : ns.getD (j : Int).toNat 0 = n := hn
        try simp only [en, idxV_mapT]
        have hbj : TkB (addL O o (ns.take j)) (i * 1000 + j) := (addL_b (p := o) (ns.take j) hb0).mono (by rw [List.length_take]; omega)
        have hstep : j < ns.length → addL O o (ns.take (j + 1)) = addT (addL O o (ns.take j)) o n := fun h => by rw [List.take_succ_eq_append_getElem h, ← getD_lt (d := 0) h, hn, addL_snoc]
        refine ⟨fun hjl => ⟨⟨by omega, hjl⟩, fun _ _ _ => ⟨fun hneg => ?_, fun hpos a ha => ?_⟩⟩, fun hje => ?_⟩
        · have e := hlost (by rw [hlo]; exact List.any_eq_true.2 ⟨n, by rw [← hn]; exact getD_mem (by omega), decide_eq_true hneg⟩)
          rw [e]; exact ⟨rfl, rfl⟩
        · have hst := hstep (by omega)
          generalize addL O o (ns.take j) = P at hbj hst ha ⊢
          unfold addT at hst
          cases a
          · have ha : idxV (fun (t : Tsk) => decide (t.1 = n)) P < 0 := ha
            rw [if_pos ha] at hst
            (simp -implicitDefEqProofs only [go_sem, bP, con13, con32, con33, con35, con34, con37, con38, conCtN, con39, conSrS, hT, hG, hk, hK, Tryz.results13, con40, con41, sortFCon]); (try simp (disch := decide +kernel) only [drawn, true_and, and_true])
            have eL : (((P.map (fun t => ((t.1, []) : Tsk)) ++ [((n, []) : Tsk)]).length : Int) - 1) = (P.length : Int) := by simp
            have eN : ((P.length : Int)).toNat = P.length := by omega
            have eM : (P.map (fun t => ((t.1, []) : Tsk))).length = P.length := List.length_map _
            have eM2 : (P.map (fun t => ((t.1, []) : Tsk)) ++ [((n, []) : Tsk)]).length = P.length + 1 := by simp
            have eM3 : (P.map (fun t => t.2) ++ [([] : List Plt)]).length = P.length + 1 := by simp
            have hb1 := hbj.1
            simp only [eL, eN, tk_end, tk_end2, List.any_nil, List.length_nil, List.nil_append]
            simp only [eM, eM2, eM3]
            (repeat' with_reducible first | refine And.intro ?_ ?_ | intro _) <;> try first | with_reducible (first | assumption | omega | contradiction) | decide
            all_goals first
             | omega
             | (refine fin_lp ⟨j + 1, by omega, lt_succ hzj (by rw [hn]; exact hpos)⟩ ?_ (by dsimp only; omega)
                simp only [go_sem]
                rw [hst]
                simp
                done)
             | fail
          · have ha : 0 ≤ idxV (fun (t : Tsk) => decide (t.1 = n)) P := ha
            rw [if_neg (by omega)] at hst
            (simp -implicitDefEqProofs only [go_sem, bP, con13, con32, con33, con35, con34, con37, con38, conCtN, con39, conSrS, hT, hG, hk, hK, Tryz.results13, con40, con41, sortFCon]); (try simp (disch := decide +kernel) only [drawn, true_and, and_true])
            refine ⟨fun hF => hF.elim, ?_⟩
            obtain ⟨hk, _, _⟩ := idxV_spec (d := tk0) ha
            obtain ⟨k, hkk⟩ : ∃ k : Nat, idxV (fun (t : Tsk) => decide (t.1 = n)) P = k := ⟨(idxV (fun (t : Tsk) => decide (t.1 = n)) P).toNat, by omega⟩
            rw [hkk] at hk hst ⊢
            have hk : k < P.length := hk
            have eN : ((k : Int)).toNat = k := by omega
            have eM : (P.map (fun t => ((t.1, []) : Tsk))).length = P.length := List.length_map _
            have eM3 : (P.map (fun t => t.2)).length = P.length := List.length_map _
            simp only [eN] at hst ⊢
            have hb2 := hbj.2 _ (getD_mem (d := tk0) hk)
            have hs1 := tk_set1 hk
            have hs3 := tk_set3 hk
            have hg := tk_get hk
            simp only [hg, eM, eM3, List.set_set]
            generalize P.getD k tk0 = t0 at hst hb2 hs1 hs3 hg ⊢
            (repeat' with_reducible first | refine And.intro ?_ ?_ | intro _) <;> try first | with_reducible (first | assumption | omega | contradiction) | decide
            all_goals first
             | omega
             | (have h : (t0.2.any fun y => decide (y = o)) = false := by assumption
                rw [if_neg (by rw [h]; simp)] at hst
                refine fin_lp ⟨j + 1, by omega, lt_succ hzj (by rw [hn]; exact hpos)⟩ ?_ (by dsimp only; omega)
                simp only [go_sem]
                rw [hst, hs1, tk_set2]
                try first | rfl | (and_intros <;> first | trivial | rfl | omega)
                done)
             | (have h : (t0.2.any fun y => decide (y = o)) = true := by assumption
                rw [if_pos h, hs3] at hst
                refine fin_lp ⟨j + 1, by omega, lt_succ hzj (by rw [hn]; exact hpos)⟩ ?_ (by dsimp only; omega)
                simp only [go_sem]
                rw [hst]
                try first | rfl | (and_intros <;> first | trivial | rfl | omega)
                done)
             | fail
        · have hjn : j = ns.length := by omega
          have hlf : lostV c l o = false := by
           rw [hlo, List.any_eq_false]
           intro x hx
           obtain ⟨k, hk, rfl⟩ := List.mem_iff_getElem.1 hx
           have := hzj k (by omega)
           rw [getD_lt hk] at this
           simpa using this
          refine ⟨by omega, ?_⟩
          refine fin_lp ⟨i + 1, by omega, lt_succ hz (by rw [ho]; exact hlf)⟩ ?_ (by dsimp only; omega)
          simp only [go_sem]
          rw [hnx, hjn, List.take_length]
          try first | rfl | (and_intros <;> first | trivial | rfl | omega)
    · have hiS : i = S.length := by omega
      have hall : ¬ S.any (lostV c l) = true := by
       intro q
       obtain ⟨x, hx, hq⟩ := List.any_eq_true.1 q
       obtain ⟨k, hk, rfl⟩ := List.mem_iff_getElem.1 hx
       have := hz k (by omega)
       rw [getD_lt hk, hq] at this
       cases this
      have hb1 := hb0.1
      have e := hsn hall
      rw [hiS, List.take_length] at hb1 ⊢
      have hN := tskL_n c l S
      rw [putSls_tk]
      refine ⟨by omega, fun a ha => ?_⟩
      rw [e]
      exact ⟨rfl, sortT_eq hN ha.1 ha.2⟩)
end Go.Proofs.YtomdgacmoeohnaaGreat

/- A part. -/
set_option maxRecDepth 100000
set_option maxHeartbeats 8000000
namespace Go.Proofs.YtomdgacmoeohnaaGreat
open Go.Ev
def onB (f : Flt) (c : Cnt) : Bool := decide (c.flt = f) && decide (c.pos ≠ 0)
def sortC (l : List Cnt) : List Cnt := l.mergeSort (fun a b => decide (a.pos ≤ b.pos))
def aboV (c : List Cnt) (f : Flt) : List Cnt := sortC (c.filter (onB f))
def PosN (l : List Cnt) : Prop := l.Pairwise (fun a b => a.pos ≠ b.pos)
theorem sortC_eq {l z : List Cnt} (hn : PosN l) (hp : z.Perm l) (hs : z.Pairwise (fun a b => ¬ cmpV b.pos a.pos < 0)) : z = sortC l := by
 have hc : ∀ a b : Int, ¬ cmpV b a < 0 → a ≤ b := fun a b h => by
  unfold cmpV at h
  apply Classical.byContradiction
  intro q
  rw [if_pos (by omega)] at h; omega
 refine List.Perm.eq_of_pairwise (le := fun a b : Cnt => a.pos ≤ b.pos) (fun a b ha hb h1 h2 => ?_) (hs.imp fun h => hc _ _ h) ?_ (hp.trans (List.mergeSort_perm l _).symm)
 · have ha := hp.subset ha
   have hb := (List.mergeSort_perm l _).subset hb
   have e : a.pos = b.pos := by omega
   obtain ⟨i, hi, rfl⟩ := List.mem_iff_getElem.1 ha
   obtain ⟨j, hj, rfl⟩ := List.mem_iff_getElem.1 hb
   have hpw := List.pairwise_iff_getElem.1 hn
   rcases Nat.lt_trichotomy i j with h | h | h
   · exact absurd e (hpw i j hi hj h)
   · subst h; rfl
   · exact absurd e.symm (hpw j i hj hi h)
 · have := List.pairwise_mergeSort (le := fun a b : Cnt => decide (a.pos ≤ b.pos)) (fun a b d h1 h2 => by simp at *; omega) (fun a b => by simp; omega) l
   exact this.imp (fun h => by simpa using h)
theorem posN_of {c : List Cnt} (h : CtsOk c) (f : Flt) : PosN (c.filter (onB f)) := by
 unfold PosN
 have := h.pos
 refine (List.pairwise_filter.2 (this.imp fun {a b} q => fun ha hb e => ?_))
 have ha : onB f a = true := ha
 have hb : onB f b = true := hb
 unfold onB at ha hb
 rw [Bool.and_eq_true, decide_eq_true_eq, decide_eq_true_eq] at ha hb
 exact q hb.2 e (ha.1.trans hb.1.symm)
def con108 : Con := { ps := [.d true yCT, .d true yCT], rs := [.d false (.int .i64)], pre := fun _ => True, out := fun (x : Cnt × Cnt × Unit) => (cmpV x.1.pos x.2.1.pos, ()), nw := id }
theorem c108 : CtrOk Tryz.prog 108 con108.ctr :=
 con_sound (G := ⟨[(43, con43.ctr)], [], [], [], []⟩) tab_ok (EnvOk.cons c43 has43 EnvOk.nil) rfl Tryz.func108 rfl con108 31 (by kernel_rfl) (by decide) (by decide) rfl (by decide) rfl (by
  rintro ⟨⟨(n : Int), ⟨a1, (a2 : Int), a3, (a4 : Int)⟩, (c : Int), (lm : Int), (t : Int), (p : Int), (r : Int), (l : List Pce)⟩, ⟨(n2 : Int), ⟨b1, (b2 : Int), b3, (b4 : Int)⟩, (c2 : Int), (lm2 : Int), (t2 : Int), (p2 : Int), (r2 : Int), (l2 : List Pce)⟩, _⟩ hpre hwf X hT hG hk hK
  (simp -implicitDefEqProofs only [go_sem, bP, con108, con43, hT, hG, hk, hK, Tryz.results108] at hwf ⊢)
  try rfl)
def con107 : RCon := sortFCon 61 yCT 108 (fun (a b : Cnt) => cmpV a.pos b.pos)
theorem swoC : Go.Sort.SWO (fun (x y : Cnt) => decide (cmpV x.pos y.pos < 0)) := by
 obtain ⟨h1, h2, h3⟩ := cmpV_cmp.swo
 exact ⟨fun x => h1 x.pos, fun x y z => h2 x.pos y.pos z.pos, fun x y z => h3 x.pos y.pos z.pos⟩
theorem c107 : RCtrOk Tryz.prog 107 con107.rctr := sort_func (e := 61) (t := yCT) Tryz.sortC (by decide) Tryz.isAgg61 Tryz.sizeOf61 (hS := by unfold StrictP; rw [← Array.all_toList]; kernel_rfl) (c := fun (a b : Cnt) => cmpV a.pos b.pos) c108 has108 swoC
def con86 : Con := { ps := [.d false (.sl yCT), .d true yFL], rs := [.d false (.sl yCT)], pre := fun (x : List Cnt × Flt × Unit) => x.1.length ≤ 1000 ∧ PosN (x.1.filter (onB x.2.1)), out := fun (x : List Cnt × Flt × Unit) => (aboV x.1 x.2.1, ()), nw := id }
theorem c86 : CtrOk Tryz.prog 86 con86.ctr :=
 con_sound (G := ⟨[], [(107, con107.rctr)], [], [], []⟩) tab_ok (EnvOk.rcons c107 has107 EnvOk.nil) rfl Tryz.func86 rfl con86 4198331 (by kernel_rfl) (by decide) (by decide) rfl (by decide) rfl (by
  rintro ⟨(l : List Cnt), ⟨f1, (f2 : Int), f3, (f4 : Int)⟩, _⟩ hpre hwf X hT hG hk hK
  obtain ⟨hl, hN⟩ : l.length ≤ 1000 ∧ PosN (l.filter (onB (f1, f2, f3, f4))) := hpre
  (simp -implicitDefEqProofs only [go_sem, bP, con86, con107, hT, hG, hk, hK, Tryz.results86, sortFCon] at hwf ⊢)
  clear hwf
  obtain ⟨f, hf⟩ : ∃ f : Flt, (f1, f2, f3, f4) = f := ⟨_, rfl⟩
  rw [hf] at hN
  refine fun _ => evk_loop ⟨{ i : Nat // i ≤ l.length }, 1000, fun q => [(3, .one (.loc 70 0)), (5, .one (.row 64)), (8, .one (.sl yCT l false)), (9, .one (.int .i64 l.length)), (10, .one (.int .i64 q.1))], fun q => [(70, .cells 58 [.str f.1, .int .i64 f.2.1, .str f.2.2.1, .int .i64 f.2.2.2]), (64, .row 61 yCT ((l.take q.1).filter (onB f)))], fun q => l.length - q.1⟩ ⟨0, Nat.zero_le _⟩ ?_ ?_
  · subst hf
    simp only [go_sem]
    try first | rfl | (and_intros <;> first | trivial | rfl | omega)
  · rintro ⟨i, (hi : i ≤ l.length)⟩
    (simp -implicitDefEqProofs only [go_sem, bP, con86, con107, hT, hG, hk, hK, Tryz.results86, sortFCon])
    obtain ⟨o, ho⟩ : ∃ o, l.getD i ct0 = o := ⟨_, rfl⟩
    have eo : l.getD (i : Int).toNat (0, (ByteArray.empty, 0, ByteArray.empty, 0), 0, 0, 0, 0, 0, []) = o := ho
    try simp only [eo]
    have hon : ((o.2.1.1 = f.1 ∧ o.2.1.2.1 = f.2.1 ∧ o.2.1.2.2.1 = f.2.2.1 ∧ o.2.1.2.2.2 = f.2.2.2) ∧ ¬ o.2.2.2.2.2.1 = 0) ↔ onB f o = true := by
     unfold onB
     rw [Bool.and_eq_true, decide_eq_true_eq, decide_eq_true_eq, fltE o.2.1 f]
     try exact Iff.rfl
    have hst : i < l.length → (l.take (i + 1)).filter (onB f) = (l.take i).filter (onB f) ++ (if onB f o = true then [o] else []) := fun h => by
     rw [List.take_succ_eq_append_getElem h, ← getD_lt (d := ct0) h, ho, List.filter_append]
     by_cases q : onB f o = true
     · rw [List.filter_cons_of_pos q, if_pos q]; rfl
     · rw [List.filter_cons_of_neg q, if_neg q]; rfl
    have hfl : ((l.take i).filter (onB f)).length ≤ i := Nat.le_trans (List.length_filter_le _ _) (by rw [List.length_take]; omega)
    have hrl : ∀ a : Prop, (¬ o.2.1.1 = f.1 ∨ ¬ o.2.1.2.1 = f.2.1 ∨ ¬ o.2.1.2.2.1 = f.2.2.1 ∨ ¬ o.2.1.2.2.2 = f.2.2.2) ∨ o.2.2.2.2.2.1 = 0 → ¬ onB f o = true := fun _ q h => by
     obtain ⟨⟨g1, g2, g3, g4⟩, g5⟩ := hon.2 h
     rcases q with (q | q | q | q) | q
     · exact q g1
     · exact q g2
     · exact q g3
     · exact q g4
     · exact g5 q
    (repeat' with_reducible first | refine And.intro ?_ ?_ | intro _) <;> try first | with_reducible (first | assumption | omega | contradiction) | decide
    all_goals first
     | omega
     | (have h1 := hst (by omega)
        rw [if_pos (hon.1 (by assumption))] at h1
        refine fin_lp ⟨i + 1, by omega⟩ ?_ (by dsimp only; omega)
        simp only [go_sem]
        rw [h1]
        try first | rfl | (and_intros <;> first | trivial | rfl | omega)
        done)
     | (have h1 := hst (by omega)
        rw [if_neg (hrl True (by assumption)), List.append_nil] at h1
        refine fin_lp ⟨i + 1, by omega⟩ ?_ (by dsimp only; omega)
        simp only [go_sem]
        rw [h1]
        try first | rfl | (and_intros <;> first | trivial | rfl | omega)
        done)
     | (rename_i ha
        have e4 : l.take i = l := List.take_of_length_le (by omega)
        rw [e4] at ha
        unfold aboV
        rw [hf]
        exact sortC_eq hN ha.1 ha.2)
     | fail)
def con88 : Con := { ps := [.d true yTK, .p 61 yCT], rs := [.d false .bool], pre := fun _ => True, out := fun (x : Tsk × Cnt × Unit) => (decide (x.1.1 = x.2.1.num), ()), nw := id }
theorem c88 : CtrOk Tryz.prog 88 con88.ctr :=
 con_sound (G := ⟨[], [], [], [], []⟩) tab_ok EnvOk.nil rfl Tryz.func88 rfl con88 15 (by kernel_rfl) (by decide) (by decide) rfl (by decide) rfl (by
  rintro ⟨⟨(a : Int), (b : List Plt)⟩, ⟨(n : Int), ⟨a1, (a2 : Int), a3, (a4 : Int)⟩, (c : Int), (lm : Int), (t : Int), (p : Int), (r : Int), (l : List Pce)⟩, _⟩ hpre hwf X hT hG hk hK
  (simp -implicitDefEqProofs only [go_sem, bP, con88, hT, hG, hk, hK, Tryz.results88] at hwf ⊢)
  try (first | rfl | trace_state))
def con89 : Con := { ps := [.d true yTK, .p 61 yCT], rs := [.d false .bool], pre := fun _ => True, out := fun (x : Tsk × Cnt × Unit) => (decide (x.1.1 = x.2.1.num), ()), nw := id }
theorem c89 : CtrOk Tryz.prog 89 con89.ctr :=
 con_sound (G := ⟨[], [], [], [], []⟩) tab_ok EnvOk.nil rfl Tryz.func89 rfl con89 15 (by kernel_rfl) (by decide) (by decide) rfl (by decide) rfl (by
  rintro ⟨⟨(a : Int), (b : List Plt)⟩, ⟨(n : Int), ⟨a1, (a2 : Int), a3, (a4 : Int)⟩, (c : Int), (lm : Int), (t : Int), (p : Int), (r : Int), (l : List Pce)⟩, _⟩ hpre hwf X hT hG hk hK
  (simp -implicitDefEqProofs only [go_sem, bP, con89, hT, hG, hk, hK, Tryz.results89] at hwf ⊢)
  try (first | rfl | trace_state))
end Go.Proofs.YtomdgacmoeohnaaGreat
