/- ControlDelivers: for every input the call returns true, and each argument reads afterwards a9s it read before; the one package variable that the reading takes is tied to the program's text by the given tie. -/
import Derived.Test.YtabadacjbkhmkaaGreatDoorCnSkToGs
import Derived.Test.YtabadacjbkhmkaaGreatDoorTie
import Derived.Test.YtabadacjbkhmkaaGreatDoorCards
import Derived.WalkKit
import Derived.ProofKit
import Derived.LaidMore
import Derived.LaidOnce
import Derived.OpenShut
import Derived.Lib.LaidTab
import Derived.SevenTiedAt
import Derived.Stop.Joined
set_option linter.all false
namespace Go.Proofs.YtabadacjbkhmkaaGreatDoor
open Go.Ev Go.ChangeShapes Go.WideShapes Go.ChangeAt Go.RowKit
def tys6 : List (Bool × Ty) := [(false, .sl yI)]
abbrev laidR : List (String × DataW Unit) := Rows.controlDeliversRow.laid
theorem gWords : Tryz.prog.globalNamed "baggage/baggageref07.words" = some 0 := by kernel_rfl
theorem door_met (os : Os) (args : Array Value) : laidMetH Tryz.prog laidR ((World.doorLaid Tryz.prog 14 os).forCall (fun _ _ => 0) ⟨#[], args, []⟩).memory :=
 laidMetH_of_parts3 (fuel := 8) (laidMet_of_run' 8 (by kernel_rfl) (by kernel_rfl)) (by kernel_rfl) (by kernel_rfl)
theorem of_laid {W : World} (h : laidMetH Tryz.prog laidR W) : GlIn gvs W := by
 rw [MakeChecks.laidMetH_plain _ _ _ (by kernel_rfl)] at h
 exact sC5 (name := "baggage/baggageref07.words") (t := 108) (e := 9) (ws := wordsL) (rest := []) gWords (by kernel_rfl) Tryz.underlying108 Tryz.underlying9 (by kernel_rfl) h
set_option maxRecDepth 100000 in
theorem controlDelivers_contract (H : Type) (enc : TypeId × Value → H) (W : World) (base : Nat) (args : Array Value) (ds gs : List (DataW H)) (before : List MemPlace) (hL : laidMetH Tryz.prog laidR W)
 (hval : ∀ (j : Nat) t v, Tryz.f6.params[j]? = some t → args[j]? = some v → Value.okWide Tryz.prog W .any base t v)
 (hW : DataW.Whole enc Tryz.prog Tryz.f6.params.toList Rows.controlDeliversSpec.vars false W args.toList ds gs before)
 : Calls Tryz.prog 6 args W fun e W' => ∃ v, e = .returned v ∧ Rows.controlDeliversSpec.post enc Tryz.prog Tryz.f6 false true false false W args v W' := by
 have hW2 := hW
 obtain ⟨p, q, hA, hV, _, _, _⟩ := hW
 obtain ⟨rfl, rfl⟩ := trodVars_none hV
 have hC : CtrG gvs Tryz.prog 6 (lawCon tys6 fun _ => True).ctr := c6
 have hA2 : DataW.TrodAll enc Tryz.prog W 0 (fun _ => true) true Tryz.f6.params.toList args.toList ds p := hA
 rw [Tryz.params6] at hA2 hval
 have hv : ∀ (j : Nat) (t : TypeId) (v : Value), [22][j]? = some t → args.toList[j]? = some v → Value.okWide Tryz.prog W .any base t v := fun j t v h1 h2 => hval j t v (by rw [← h1]; exact List.getElem?_toArray) (by rw [Array.getElem?_toList] at h2; exact h2)
 refine (kC0 (jD0 H) hC (of_laid hL) (ts := [22]) (by kernel_rfl) (ds := ds) (ps := p) (base := base) hA2 hv (fun _ _ _ => trivial)).mono fun e W' h => ?_
 obtain ⟨rfl, hb⟩ := h
 refine ⟨_, rfl, gC7 laid (by kernel_rfl) (tb := 4) (by kernel_rfl) Tryz.underlying4 rfl ?_ hW2 hb⟩
 obtain ⟨v0, vs0, d0, ds0, p0, q0, _, rfl, rfl, h0, r0⟩ := trodAll_cons hA2
 obtain ⟨_, rfl, _⟩ := trodAll_nil r0
 exact ⟨rfl, rfl, rfl⟩
set_option maxRecDepth 100000 in
theorem controlDelivers_lifted (os : Os) (started : os.Started) (H : Type) (enc : TypeId × Value → H) :
 ReturnsInHanded {} Tryz.checked os 6 .any (fun w args => (Rows.controlDeliversSpec.pre enc Tryz.prog Tryz.f6 [] false w args ∧ laidMetH Tryz.prog laidR w) ∧ sizedMet enc Tryz.prog Tryz.f6 (OpenSpec.ofChange Rows.controlDeliversSpec) false w args)
  (Rows.controlDeliversSpec.post enc Tryz.prog Tryz.f6 false true false false) := by
 refine returnsInHanded_of_change_and (C := Tryz.checked) (X := fun w _ => laidMetH Tryz.prog laidR w) (fun _ _ _ hh h => h.of_heap hh) own started (by kernel_rfl) Tryz.func6
  (ChangeSpec.witness_shaped (enc := enc) (C := Tryz.checked) (os := os) (X := fun w _ => laidMetH Tryz.prog laidR w) false (World.doorLaid Tryz.prog 14 os) #[.slice none 0 0] 8 rfl (World.shaped_of_RefB (by kernel_rfl) (by kernel_rfl)) (by kernel_rfl) (by kernel_rfl) (by kernel_rfl) (door_met os _)) ?_
 intro W base args ds gs before hval hW _ _ hL _
 exact controlDelivers_contract H enc W base args ds gs before hL hval hW
theorem controlDelivers_over : Rows.ControlDeliversSaid :=
 OpenClaim.holds_of_wide 6 Tryz.f6 rfl rfl rfl rfl rfl rfl rfl ⟨rfl, rfl, rfl, rfl, rfl⟩ rfl rfl rfl rfl rfl (by kernel_rfl) Tryz.func6 (by kernel_rfl)
  (of_decide_eq_true (by kernel_rfl)) (by unfold Func.isWrapper; first | (rw [if_pos (by decide +kernel)]; kernel_rfl) | (rw [if_neg (by decide +kernel)]; exact ⟨rfl, rfl⟩))
  (fun os started H enc _ => controlDelivers_lifted os started H enc)
theorem controlDelivers_holds : Rows.ControlDeliversCardSaid :=
 Claim7.holds_tied_plain_at .later [] [.data] true (true, "06148c9e897e1426053424129b3d74939c9b5c5de843c9d092b4a3a091ad2ef3") false
  controlDelivers_over (fun _ h => by cases h) (by kernel_rfl) (fun _ h => by cases h) controlDelivers_row_tie rfl ⟨rfl, rfl⟩ (by kernel_rfl) rfl
  (fun f fn hf hfn => by
    obtain rfl : f = 6 := Option.some.inj ((show Tryz.prog.funcNamed "baggage/baggagelaw14.ControlDelivers" = some 6 by kernel_rfl).symm.trans hf) |>.symm
    obtain rfl : fn = Tryz.f6 := (Option.some.inj (Tryz.func6.symm.trans hfn)).symm
    exact ⟨by kernel_rfl, fun j t ht => by
     rw [Tryz.params6] at ht
     have hm : t ∈ [22] := by simpa using Array.mem_of_getElem? ht
     have hall : ([22].all fun u => !Tryz.prog.wantsStandIn u) = true := by kernel_rfl
     exact (show Tryz.prog.wantsStandIn t = false by simpa using List.all_eq_true.1 hall t hm)⟩)
  (by kernel_rfl)
#print axioms controlDelivers_holds
end Go.Proofs.YtabadacjbkhmkaaGreatDoor
