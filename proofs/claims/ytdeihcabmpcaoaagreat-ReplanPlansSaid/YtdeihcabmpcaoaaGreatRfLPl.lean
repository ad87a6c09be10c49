/- ReplanPlans: for every input the call returns true, and each argument reads afterwards as it read before. -/
import Derived.Test.YtdeihcabmpcaoaaGreatRfRL5ToLaw
set_option linter.unusedVariables false
set_option linter.unusedSimpArgs false
namespace Go.Proofs.YtdeihcabmpcaoaaGreat
open Go.Ev Go.ChangeShapes Go.WideShapes Go.ChangeAt Go.RowKit

def tys4 : List (Bool × Ty) := [(false, .sl (.int .i64))]

set_option maxRecDepth 100000 in
theorem replanPlans_contract (H : Type) (enc : TypeId × Value → H) (W : World) (base : Nat) (args : Array Value) (ds gs : List (DataW H)) (before : List MemPlace)
 (hval : ∀ (j : Nat) t v, Tryz.f4.params[j]? = some t → args[j]? = some v → Value.okWide Tryz.prog W .any base t v)
 (hW : DataW.Whole enc Tryz.prog Tryz.f4.params.toList Rows.replanPlansSpec.vars false W args.toList ds gs before)
 : Calls Tryz.prog 4 args W fun e W' => ∃ v, e = .returned v ∧ Rows.replanPlansSpec.post enc Tryz.prog Tryz.f4 false true false false W args v W' := by
 have hW2 := hW
 obtain ⟨p, q, hA, hV, _, _, _⟩ := hW
 obtain ⟨rfl, rfl⟩ := trodVars_none hV
 have hC : CtrOk Tryz.prog 4 (lawCon tys4 fun _ => True).ctr := c4
 have hA2 : DataW.TrodAll enc Tryz.prog W 0 (fun _ => true) true Tryz.f4.params.toList args.toList ds p := hA
 rw [Tryz.params4] at hA2 hval
 have hv : ∀ (j : Nat) (t : TypeId) (v : Value), [22][j]? = some t → args.toList[j]? = some v → Value.okWide Tryz.prog W .any base t v := fun j t v h1 h2 => hval j t v (by rw [← h1]; exact List.getElem?_toArray) (by rw [Array.getElem?_toList] at h2; exact h2)
 refine (law_calls (bulk_ok H) hC (ts := [22]) (by kernel_rfl) (ds := ds) (ps := p) (base := base) hA2 hv (fun _ _ _ => trivial)).mono fun e W' h => ?_
 obtain ⟨rfl, hb⟩ := h
 refine ⟨_, rfl, law_post laid (by kernel_rfl) (tb := 4) (by kernel_rfl) Tryz.underlying4 rfl ?_ hW2 hb⟩
 obtain ⟨v0, vs0, d0, ds0, p0, q0, _, rfl, rfl, h0, r0⟩ := trodAll_cons hA2
 obtain ⟨_, rfl, _⟩ := trodAll_nil r0
 exact ⟨rfl, rfl, rfl⟩

set_option maxRecDepth 100000 in
theorem replanPlans_lifted (os : Os) (started : os.Started) (H : Type) (enc : TypeId × Value → H) :
 ReturnsInHanded {} Tryz.checked os 4 .any (Rows.replanPlansSpec.pre6 enc Tryz.prog Tryz.f4 Rows.replanPlansRow.domain false) (Rows.replanPlansSpec.post enc Tryz.prog Tryz.f4 false true false false) := by
 refine returnsInHanded_of_change (C := Tryz.checked) own started (by kernel_rfl) Tryz.func4
  (ChangeSpec.witness6 (enc := enc) (C := Tryz.checked) false ⟨#[], #[.slice none 0 0], []⟩ 8 (by kernel_rfl) (by kernel_rfl) (by kernel_rfl) (by kernel_rfl)) ?_
 intro W base args ds gs before hval hW _ _
 exact replanPlans_contract H enc W base args ds gs before hval hW

theorem replanPlans_over : Rows.replanPlansRow.holds Tryz.pinned (OpenSpec.ofChange Rows.replanPlansSpec) :=
 OpenClaim.holds_of_wide 4 Tryz.f4 rfl rfl rfl rfl rfl rfl rfl ⟨rfl, rfl, rfl, rfl, rfl⟩ rfl rfl rfl rfl rfl (by kernel_rfl) Tryz.func4 (by kernel_rfl)
  (of_decide_eq_true (by kernel_rfl)) (by unfold Func.isWrapper; first | (rw [if_pos (by decide +kernel)]; kernel_rfl) | (rw [if_neg (by decide +kernel)]; exact ⟨rfl, rfl⟩))
  (fun os started H enc _ => replanPlans_lifted os started H enc)

theorem replanPlans_holds : Rows.ReplanPlansSaid :=
 replanPlans_over
#print axioms replanPlans_holds
end Go.Proofs.YtdeihcabmpcaoaaGreat
