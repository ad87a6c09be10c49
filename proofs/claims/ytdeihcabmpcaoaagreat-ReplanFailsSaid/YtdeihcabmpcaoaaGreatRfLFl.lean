/- ReplanFails: for every input the call returns true, and each argument reads afterwards as it read before. -/
import Derived.Test.YtdeihcabmpcaoaaGreatRfRFlToLaw
set_option linter.unusedVariables false
set_option linter.unusedSimpArgs false
namespace Go.Proofs.YtdeihcabmpcaoaaGreat
open Go.Ev Go.ChangeShapes Go.WideShapes Go.ChangeAt Go.RowKit

def tys3 : List (Bool × Ty) := [(false, .sl (.int .i64)), (false, (.int .i64))]

set_option maxRecDepth 100000 in
theorem replanFails_contract (H : Type) (enc : TypeId × Value → H) (W : World) (base : Nat) (args : Array Value) (ds gs : List (DataW H)) (before : List MemPlace)
 (hval : ∀ (j : Nat) t v, Tryz.f3.params[j]? = some t → args[j]? = some v → Value.okWide Tryz.prog W .any base t v)
 (hW : DataW.Whole enc Tryz.prog Tryz.f3.params.toList Rows.replanFailsSpec.vars false W args.toList ds gs before)
 : Calls Tryz.prog 3 args W fun e W' => ∃ v, e = .returned v ∧ Rows.replanFailsSpec.post enc Tryz.prog Tryz.f3 false true false false W args v W' := by
 have hW2 := hW
 obtain ⟨p, q, hA, hV, _, _, _⟩ := hW
 obtain ⟨rfl, rfl⟩ := trodVars_none hV
 have hC : CtrOk Tryz.prog 3 (lawCon tys3 fun _ => True).ctr := c3
 have hA2 : DataW.TrodAll enc Tryz.prog W 0 (fun _ => true) true Tryz.f3.params.toList args.toList ds p := hA
 rw [Tryz.params3] at hA2 hval
 have hv : ∀ (j : Nat) (t : TypeId) (v : Value), [22, 3][j]? = some t → args.toList[j]? = some v → Value.okWide Tryz.prog W .any base t v := fun j t v h1 h2 => hval j t v (by rw [← h1]; exact List.getElem?_toArray) (by rw [Array.getElem?_toList] at h2; exact h2)
 refine (law_calls (bulk_ok H) hC (ts := [22, 3]) (by kernel_rfl) (ds := ds) (ps := p) (base := base) hA2 hv (fun _ _ _ => trivial)).mono fun e W' h => ?_
 obtain ⟨rfl, hb⟩ := h
 refine ⟨_, rfl, law_post laid (by kernel_rfl) (tb := 4) (by kernel_rfl) Tryz.underlying4 rfl ?_ hW2 hb⟩
 obtain ⟨v0, vs0, d0, ds0, p0, q0, _, rfl, rfl, h0, r0⟩ := trodAll_cons hA2
 obtain ⟨v1, vs1, d1, ds1, p1, q1, _, rfl, rfl, h1, r1⟩ := trodAll_cons r0
 obtain ⟨_, rfl, _⟩ := trodAll_nil r1
 exact ⟨rfl, rfl, rfl⟩

set_option maxRecDepth 100000 in
theorem replanFails_lifted (os : Os) (started : os.Started) (H : Type) (enc : TypeId × Value → H) :
 ReturnsInHanded {} Tryz.checked os 3 .any (Rows.replanFailsSpec.pre6 enc Tryz.prog Tryz.f3 Rows.replanFailsRow.domain false) (Rows.replanFailsSpec.post enc Tryz.prog Tryz.f3 false true false false) := by
 refine returnsInHanded_of_change (C := Tryz.checked) own started (by kernel_rfl) Tryz.func3
  (ChangeSpec.witness6 (enc := enc) (C := Tryz.checked) false ⟨#[], #[.slice none 0 0, .int .i64 0], []⟩ 8 (by kernel_rfl) (by kernel_rfl) (by kernel_rfl) (by kernel_rfl)) ?_
 intro W base args ds gs before hval hW _ _
 exact replanFails_contract H enc W base args ds gs before hval hW

theorem replanFails_over : Rows.replanFailsRow.holds Tryz.pinned (OpenSpec.ofChange Rows.replanFailsSpec) :=
 OpenClaim.holds_of_wide 3 Tryz.f3 rfl rfl rfl rfl rfl rfl rfl ⟨rfl, rfl, rfl, rfl, rfl⟩ rfl rfl rfl rfl rfl (by kernel_rfl) Tryz.func3 (by kernel_rfl)
  (of_decide_eq_true (by kernel_rfl)) (by unfold Func.isWrapper; first | (rw [if_pos (by decide +kernel)]; kernel_rfl) | (rw [if_neg (by decide +kernel)]; exact ⟨rfl, rfl⟩))
  (fun os started H enc _ => replanFails_lifted os started H enc)

theorem replanFails_holds : Rows.ReplanFailsSaid :=
 replanFails_over
#print axioms replanFails_holds
end Go.Proofs.YtdeihcabmpcaoaaGreat
