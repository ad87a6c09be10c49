/- ReplanLeast: for every input the call returns true, and each argument reads afterwards as it read before. -/
import Derived.Test.YtfaoonbnbdlgaaaRlRL3ToLaw
set_option linter.unusedVariables false
set_option linter.unusedSimpArgs false
namespace Go.Proofs.Ytfaoonbnbdlgaaa
open Go.Ev Go.ChangeShapes Go.WideShapes Go.ChangeAt Go.RowKit

def tys3 : List (Bool × Ty) := [(false, .sl (.int .i64))]

set_option maxRecDepth 100000 in
theorem replanLeast_contract (H : Type) (enc : TypeId × Value → H) (W : World) (base : Nat) (args : Array Value) (ds gs : List (DataW H)) (before : List MemPlace)
 (hval : ∀ (j : Nat) t v, Try.f3.params[j]? = some t → args[j]? = some v → Value.okWide Try.prog W .any base t v)
 (hW : DataW.Whole enc Try.prog Try.f3.params.toList Rows.replanLeastSpec.vars false W args.toList ds gs before)
 : Calls Try.prog 3 args W fun e W' => ∃ v, e = .returned v ∧ Rows.replanLeastSpec.post enc Try.prog Try.f3 false true false false W args v W' := by
 have hW2 := hW
 obtain ⟨p, q, hA, hV, _, _, _⟩ := hW
 obtain ⟨rfl, rfl⟩ := trodVars_none hV
 have hC : CtrOk Try.prog 3 (lawCon tys3 fun _ => True).ctr := c3
 have hA2 : DataW.TrodAll enc Try.prog W 0 (fun _ => true) true Try.f3.params.toList args.toList ds p := hA
 rw [Try.params3] at hA2 hval
 have hv : ∀ (j : Nat) (t : TypeId) (v : Value), [22][j]? = some t → args.toList[j]? = some v → Value.okWide Try.prog W .any base t v := fun j t v h1 h2 => hval j t v (by rw [← h1]; exact List.getElem?_toArray) (by rw [Array.getElem?_toList] at h2; exact h2)
 refine (law_calls (bulk_ok H) hC (ts := [22]) (by kernel_rfl) (ds := ds) (ps := p) (base := base) hA2 hv (fun _ _ _ => trivial)).mono fun e W' h => ?_
 obtain ⟨rfl, hb⟩ := h
 refine ⟨_, rfl, law_post laid (by kernel_rfl) (tb := 4) (by kernel_rfl) Try.underlying4 rfl ?_ hW2 hb⟩
 obtain ⟨v0, vs0, d0, ds0, p0, q0, _, rfl, rfl, h0, r0⟩ := trodAll_cons hA2
 obtain ⟨_, rfl, _⟩ := trodAll_nil r0
 exact ⟨rfl, rfl, rfl⟩

set_option maxRecDepth 100000 in
theorem replanLeast_lifted (os : Os) (started : os.Started) (H : Type) (enc : TypeId × Value → H) :
 ReturnsInHanded {} Try.checked os 3 .any (Rows.replanLeastSpec.pre6 enc Try.prog Try.f3 Rows.replanLeastRow.domain false) (Rows.replanLeastSpec.post enc Try.prog Try.f3 false true false false) := by
 refine returnsInHanded_of_change (C := Try.checked) own started (by kernel_rfl) Try.func3
  (ChangeSpec.witness6 (enc := enc) (C := Try.checked) false ⟨#[], #[.slice none 0 0], []⟩ 8 (by kernel_rfl) (by kernel_rfl) (by kernel_rfl) (by kernel_rfl)) ?_
 intro W base args ds gs before hval hW _ _
 exact replanLeast_contract H enc W base args ds gs before hval hW

theorem replanLeast_over : Rows.replanLeastRow.holds Try.pinned (OpenSpec.ofChange Rows.replanLeastSpec) :=
 OpenClaim.holds_of_wide 3 Try.f3 rfl rfl rfl rfl rfl rfl rfl ⟨rfl, rfl, rfl, rfl, rfl⟩ rfl rfl rfl rfl rfl (by kernel_rfl) Try.func3 (by kernel_rfl)
  (of_decide_eq_true (by kernel_rfl)) (by unfold Func.isWrapper; first | (rw [if_pos (by decide +kernel)]; kernel_rfl) | (rw [if_neg (by decide +kernel)]; exact ⟨rfl, rfl⟩))
  (fun os started H enc _ => replanLeast_lifted os started H enc)

theorem replanLeast_holds : Rows.ReplanLeastSaid :=
 replanLeast_over
#print axioms replanLeast_holds
end Go.Proofs.Ytfaoonbnbdlgaaa
