/- ControlDecides: for every input the call returns true, and each argument reads afterwards a9s it read before; the one package variable that the reading takes is tied to the program's text by the given tie. -/
import Derived.Test.YtabadacjbkhmkaaGreatDoorEvLawToGs
import Derived.Test.YtabadacjbkhmkaaGreatDoorTie
import Derived.Test.YtabadacjbkhmkaaGreatDoorCards
import Derived.WalkKit
import Derived.ProofKit
import Derived.LaidMore
import Derived.LaidOnce
import Derived.OpenShut
import Derived.Lib.LaidTab
import Derived.SevenTiedAt
import Derived.Stop.Joined
set_option linter.all false
namespace Go.Proofs.YtabadacjbkhmkaaGreatDoor
open Go.Ev Go.ChangeShapes Go.WideShapes Go.ChangeAt Go.RowKit
def tys3 : List (Bool × Ty) := [(false, .sl yI), (false, .sl yI), (false, .sl .bool), (false, .sl .bool), (false, .sl .bool)]
abbrev laidR : List (String × DataW Unit) := Rows.controlDecidesRow.laid
theorem gWords : Tryz.prog.globalNamed "baggage/baggageref07.words" = some 0 := by kernel_rfl
theorem door_met (os : Os) (args : Array Value) : laidMetH Tryz.prog laidR ((World.doorLaid Tryz.prog 14 os).forCall (fun _ _ => 0) ⟨#[], args, []⟩).memory :=
 laidMetH_of_parts3 (fuel := 8) (laidMet_of_run' 8 (by kernel_rfl) (by kernel_rfl)) (by kernel_rfl) (by kernel_rfl)
theorem of_laid {W : World} (h : laidMetH Tryz.prog laidR W) : GlIn gvs W := by
 rw [MakeChecks.laidMetH_plain _ _ _ (by kernel_rfl)] at h
 exact gC0 (name := "baggage/baggageref07.words") (t := 108) (e := 9) (ws := wordsL) (rest := []) gWords (by kernel_rfl) Tryz.underlying108 Tryz.underlying9 (by kernel_rfl) h
set_option maxRecDepth 100000 in
theorem controlDecides_contract (H : Type) (enc : TypeId × Value → H) (W : World) (base : Nat) (args : Array Value) (ds gs : List (DataW H)) (before : List MemPlace) (hL : laidMetH Tryz.prog laidR W)
 (hval : ∀ (j : Nat) t v, Tryz.f3.params[j]? = some t → args[j]? = some v → Value.okWide Tryz.prog W .any base t v)
 (hW : DataW.Whole enc Tryz.prog Tryz.f3.params.toList Rows.controlDecidesSpec.vars false W args.toList ds gs before)
 : Calls Tryz.prog 3 args W fun e W' => ∃ v, e = .returned v ∧ Rows.controlDecidesSpec.post enc Tryz.prog Tryz.f3 false true false false W args v W' := by
 have hW2 := hW
 obtain ⟨p, q, hA, hV, _, _, _⟩ := hW
 obtain ⟨rfl, rfl⟩ := trodVars_none hV
 have hC : CtrG gvs Tryz.prog 3 (lawCon tys3 fun _ => True).ctr := c3
 have hA2 : DataW.TrodAll enc Tryz.prog W 0 (fun _ => true) true Tryz.f3.params.toList args.toList ds p := hA
 rw [Tryz.params3] at hA2 hval
 have hv : ∀ (j : Nat) (t : TypeId) (v : Value), [22, 22, 23, 23, 23][j]? = some t → args.toList[j]? = some v → Value.okWide Tryz.prog W .any base t v := fun j t v h1 h2 => hval j t v (by rw [← h1]; exact List.getElem?_toArray) (by rw [Array.getElem?_toList] at h2; exact h2)
 refine (fB9 (gC9 H) hC (of_laid hL) (ts := [22, 22, 23, 23, 23]) (by kernel_rfl) (ds := ds) (ps := p) (base := base) hA2 hv (fun _ _ _ => trivial)).mono fun e W' h => ?_
 obtain ⟨rfl, hb⟩ := h
 refine ⟨_, rfl, wC6 laid (by kernel_rfl) (tb := 4) (by kernel_rfl) Tryz.underlying4 rfl ?_ hW2 hb⟩
 obtain ⟨v0, vs0, d0, ds0, p0, q0, _, rfl, rfl, h0, r0⟩ := trodAll_cons hA2
 obtain ⟨v1, vs1, d1, ds1, p1, q1, _, rfl, rfl, h1, r1⟩ := trodAll_cons r0
 obtain ⟨v2, vs2, d2, ds2, p2, q2, _, rfl, rfl, h2, r2⟩ := trodAll_cons r1
 obtain ⟨v3, vs3, d3, ds3, p3, q3, _, rfl, rfl, h3, r3⟩ := trodAll_cons r2
 obtain ⟨v4, vs4, d4, ds4, p4, q4, _, rfl, rfl, h4, r4⟩ := trodAll_cons r3
 obtain ⟨_, rfl, _⟩ := trodAll_nil r4
 exact ⟨rfl, rfl, rfl⟩
set_option maxRecDepth 100000 in
theorem controlDecides_lifted (os : Os) (started : os.Started) (H : Type) (enc : TypeId × Value → H) :
 ReturnsInHanded {} Tryz.checked os 3 .any (fun w args => (Rows.controlDecidesSpec.pre enc Tryz.prog Tryz.f3 [] false w args ∧ laidMetH Tryz.prog laidR w) ∧ sizedMet enc Tryz.prog Tryz.f3 (OpenSpec.ofChange Rows.controlDecidesSpec) false w args)
  (Rows.controlDecidesSpec.post enc Tryz.prog Tryz.f3 false true false false) := by
 refine returnsInHanded_of_change_and (C := Tryz.checked) (X := fun w _ => laidMetH Tryz.prog laidR w) (fun _ _ _ hh h => h.of_heap hh) own started (by kernel_rfl) Tryz.func3
  (ChangeSpec.witness_shaped (enc := enc) (C := Tryz.checked) (os := os) (X := fun w _ => laidMetH Tryz.prog laidR w) false (World.doorLaid Tryz.prog 14 os) #[.slice none 0 0, .slice none 0 0, .slice none 0 0, .slice none 0 0, .slice none 0 0] 8 rfl (World.shaped_of_RefB (by kernel_rfl) (by kernel_rfl)) (by kernel_rfl) (by kernel_rfl) (by kernel_rfl) (door_met os _)) ?_
 intro W base args ds gs before hval hW _ _ hL _
 exact controlDecides_contract H enc W base args ds gs before hL hval hW
theorem controlDecides_over : Rows.ControlDecidesSaid :=
 OpenClaim.holds_of_wide 3 Tryz.f3 rfl rfl rfl rfl rfl rfl rfl ⟨rfl, rfl, rfl, rfl, rfl⟩ rfl rfl rfl rfl rfl (by kernel_rfl) Tryz.func3 (by kernel_rfl)
  (of_decide_eq_true (by kernel_rfl)) (by unfold Func.isWrapper; first | (rw [if_pos (by decide +kernel)]; kernel_rfl) | (rw [if_neg (by decide +kernel)]; exact ⟨rfl, rfl⟩))
  (fun os started H enc _ => controlDecides_lifted os started H enc)
theorem controlDecides_holds : Rows.ControlDecidesCardSaid :=
 Claim7.holds_tied_plain_at .later [] [.data] true (true, "06148c9e897e1426053424129b3d74939c9b5c5de843c9d092b4a3a091ad2ef3") false
  controlDecides_over (fun _ h => by cases h) (by kernel_rfl) (fun _ h => by cases h) controlDecides_row_tie rfl ⟨rfl, rfl⟩ (by kernel_rfl) rfl
  (fun f fn hf hfn => by
    obtain rfl : f = 3 := Option.some.inj ((show Tryz.prog.funcNamed "baggage/baggagelaw14.ControlDecides" = some 3 by kernel_rfl).symm.trans hf) |>.symm
    obtain rfl : fn = Tryz.f3 := (Option.some.inj (Tryz.func3.symm.trans hfn)).symm
    exact ⟨by kernel_rfl, fun j t ht => by
     rw [Tryz.params3] at ht
     have hm : t ∈ [22, 22, 23, 23, 23] := by simpa using Array.mem_of_getElem? ht
     have hall : ([22, 22, 23, 23, 23].all fun u => !Tryz.prog.wantsStandIn u) = true := by kernel_rfl
     exact (show Tryz.prog.wantsStandIn t = false by simpa using List.all_eq_true.1 hall t hm)⟩)
  (by kernel_rfl)
#print axioms controlDecides_holds
end Go.Proofs.YtabadacjbkhmkaaGreatDoor
