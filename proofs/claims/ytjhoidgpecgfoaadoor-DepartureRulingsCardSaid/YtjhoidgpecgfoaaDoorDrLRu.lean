/- DepartureRulings: for every input the call returns true, and each argument reads afterwards as it read before; the one package variable that the reading takes is tied to the program's text by the given tie. -/
import Derived.Test.YtjhoidgpecgfoaaDoorDrKGToLaw
import Derived.Test.YtjhoidgpecgfoaaDoorTie
import Derived.Test.YtjhoidgpecgfoaaDoorCards
import Derived.WalkKit
import Derived.ProofKit
import Derived.LaidMore
import Derived.LaidOnce
import Derived.OpenShut
import Derived.Lib.LaidTab
import Derived.SevenTiedAt
import Derived.Stop.Joined
set_option linter.unusedVariables false
set_option linter.unusedSimpArgs false
namespace Go.Proofs.YtjhoidgpecgfoaaDoor
open Go.Ev Go.ChangeShapes Go.WideShapes Go.ChangeAt Go.RowKit

def tys3 : List (Bool × Ty) := [(false, .sl (.int .i64)), (false, .int .i64)]
abbrev laidR : List (String × DataW Unit) := Rows.departureRulingsRow.laid
theorem gExc : Tryd.prog.globalNamed "baggage/authority.exceptions" = some 0 := by kernel_rfl
theorem door_met (os : Os) (args : Array Value) : laidMetH Tryd.prog laidR ((World.doorLaid Tryd.prog 14 os).forCall (fun _ _ => 0) ⟨#[], args, []⟩).memory :=
 laidMetH_of_parts3 (fuel := 8) (laidMet_of_run' 8 (by kernel_rfl) (by kernel_rfl)) (by kernel_rfl) (by kernel_rfl)
theorem of_laid {W : World} (h : laidMetH Tryd.prog laidR W) : GlIn gvs W := by
 rw [MakeChecks.laidMetH_plain _ _ _ (by kernel_rfl)] at h
 refine glIn_tab (name := "baggage/authority.exceptions") (Lib.tabIs_of_head (k := .i64) (zs := [0, 3, 4, 5]) (n := 4) (e := 3) gExc (by kernel_rfl) Tryd.underlying82 Tryd.underlying3 (by kernel_rfl) (by kernel_rfl) h) gExc ?_
 intro z hz
 simp at hz
 rcases hz with rfl | rfl | rfl | rfl <;> (unfold InR; decide)

set_option maxRecDepth 100000 in
theorem departureRulings_contract (H : Type) (enc : TypeId × Value → H) (W : World) (base : Nat) (args : Array Value) (ds gs : List (DataW H)) (before : List MemPlace) (hL : laidMetH Tryd.prog laidR W)
 (hval : ∀ (j : Nat) t v, Tryd.f3.params[j]? = some t → args[j]? = some v → Value.okWide Tryd.prog W .any base t v)
 (hW : DataW.Whole enc Tryd.prog Tryd.f3.params.toList Rows.departureRulingsSpec.vars false W args.toList ds gs before)
 : Calls Tryd.prog 3 args W fun e W' => ∃ v, e = .returned v ∧ Rows.departureRulingsSpec.post enc Tryd.prog Tryd.f3 false true false false W args v W' := by
 have hW2 := hW
 obtain ⟨p, q, hA, hV, _, _, _⟩ := hW
 obtain ⟨rfl, rfl⟩ := trodVars_none hV
 have hC : CtrG gvs Tryd.prog 3 (lawCon tys3 fun _ => True).ctr := c3
 have hA2 : DataW.TrodAll enc Tryd.prog W 0 (fun _ => true) true Tryd.f3.params.toList args.toList ds p := hA
 rw [Tryd.params3] at hA2 hval
 have hv : ∀ (j : Nat) (t : TypeId) (v : Value), [22, 3][j]? = some t → args.toList[j]? = some v → Value.okWide Tryd.prog W .any base t v := fun j t v h1 h2 => hval j t v (by rw [← h1]; exact List.getElem?_toArray) (by rw [Array.getElem?_toList] at h2; exact h2)
 refine (law_callsG (bulk_ok H) hC (of_laid hL) (ts := [22, 3]) (by kernel_rfl) (ds := ds) (ps := p) (base := base) hA2 hv (fun _ _ _ => trivial)).mono fun e W' h => ?_
 obtain ⟨rfl, hb⟩ := h
 refine ⟨_, rfl, law_post laid (by kernel_rfl) (tb := 4) (by kernel_rfl) Tryd.underlying4 rfl ?_ hW2 hb⟩
 obtain ⟨v0, vs0, d0, ds0, p0, q0, _, rfl, rfl, h0, r0⟩ := trodAll_cons hA2
 obtain ⟨v1, vs1, d1, ds1, p1, q1, _, rfl, rfl, h1, r1⟩ := trodAll_cons r0
 obtain ⟨_, rfl, _⟩ := trodAll_nil r1
 exact ⟨rfl, rfl, rfl⟩

set_option maxRecDepth 100000 in
theorem departureRulings_lifted (os : Os) (started : os.Started) (H : Type) (enc : TypeId × Value → H) :
 ReturnsInHanded {} Tryd.checked os 3 .any (fun w args => (Rows.departureRulingsSpec.pre enc Tryd.prog Tryd.f3 [] false w args ∧ laidMetH Tryd.prog laidR w) ∧ sizedMet enc Tryd.prog Tryd.f3 (OpenSpec.ofChange Rows.departureRulingsSpec) false w args)
  (Rows.departureRulingsSpec.post enc Tryd.prog Tryd.f3 false true false false) := by
 refine returnsInHanded_of_change_and (C := Tryd.checked) (X := fun w _ => laidMetH Tryd.prog laidR w) (fun _ _ _ hh h => h.of_heap hh) own started (by kernel_rfl) Tryd.func3
  (ChangeSpec.witness_shaped (enc := enc) (C := Tryd.checked) (os := os) (X := fun w _ => laidMetH Tryd.prog laidR w) false (World.doorLaid Tryd.prog 14 os) #[.slice none 0 0, .int .i64 0] 8 rfl (World.shaped_of_RefB (by kernel_rfl) (by kernel_rfl)) (by kernel_rfl) (by kernel_rfl) (by kernel_rfl) (door_met os _)) ?_
 intro W base args ds gs before hval hW _ _ hL _
 exact departureRulings_contract H enc W base args ds gs before hL hval hW

theorem departureRulings_over : Rows.DepartureRulingsSaid :=
 OpenClaim.holds_of_wide 3 Tryd.f3 rfl rfl rfl rfl rfl rfl rfl ⟨rfl, rfl, rfl, rfl, rfl⟩ rfl rfl rfl rfl rfl (by kernel_rfl) Tryd.func3 (by kernel_rfl)
  (of_decide_eq_true (by kernel_rfl)) (by unfold Func.isWrapper; first | (rw [if_pos (by decide +kernel)]; kernel_rfl) | (rw [if_neg (by decide +kernel)]; exact ⟨rfl, rfl⟩))
  (fun os started H enc _ => departureRulings_lifted os started H enc)

theorem departureRulings_holds : Rows.DepartureRulingsCardSaid :=
 Claim7.holds_tied_plain_at .later [] [.data] true (true, "e4250c12fd2d9a49f810e6e362a2804104a8eeb8eec05d8d37d31c673c51fce9") false
  departureRulings_over (fun _ h => by cases h) (by kernel_rfl) (fun _ h => by cases h) departureRulings_row_tie rfl ⟨rfl, rfl⟩ (by kernel_rfl) rfl
  (fun f fn hf hfn => by
    obtain rfl : f = 3 := Option.some.inj ((show Tryd.prog.funcNamed "baggage/baggagelaw32.DepartureRulings" = some 3 by kernel_rfl).symm.trans hf) |>.symm
    obtain rfl : fn = Tryd.f3 := (Option.some.inj (Tryd.func3.symm.trans hfn)).symm
    exact ⟨by kernel_rfl, fun j t ht => by
     rw [Tryd.params3] at ht
     have hm : t ∈ [22, 3] := by simpa using Array.mem_of_getElem? ht
     have hall : ([22, 3].all fun u => !Tryd.prog.wantsStandIn u) = true := by kernel_rfl
     exact (show Tryd.prog.wantsStandIn t = false by simpa using List.all_eq_true.1 hall t hm)⟩)
  (by kernel_rfl)
#print axioms departureRulings_holds
end Go.Proofs.YtjhoidgpecgfoaaDoor
