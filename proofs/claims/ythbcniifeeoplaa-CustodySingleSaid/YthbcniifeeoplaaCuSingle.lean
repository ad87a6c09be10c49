/- CustodySingle: for every input the call returns true, and each argument reads afterwards as it read before. -/
import Derived.Test.YthbcniifeeoplaaCuC
import Derived.Test.YthbcniifeeoplaaEvLaw
import Derived.WalkKit
import Derived.ProofKit
set_option linter.unusedVariables false
set_option linter.unusedSimpArgs false
namespace Go.Proofs.Ythbcniifeeoplaa
open Go.Ev Go.ChangeShapes Go.WideShapes Go.ChangeAt Go.RowKit

theorem bulk_ok (H : Type) : Bulk (H := H) Rows.uptoBulk Rows.uptoBulkAll where
  lit l := by cases l <;> simp [Rows.uptoBulk]
  str b := by simp [Rows.uptoBulk]
  nil := by simp [Rows.uptoBulk]
  sl a b := by simp only [Rows.uptoBulk]; omega
  agg a := by simp only [Rows.uptoBulk]; omega
  cons d r := by simp only [Rows.uptoBulkAll]

theorem own : ownKnob Try.prog.godebug = none := by kernel_rfl
theorem laid : laidOutB Try.prog = true := by kernel_rfl

def tys4 : List (Bool × Ty) := [(false, .int .i64), (false, .sl (.int .i64)), (false, .int .i64), (false, .int .i64), (false, .sl (.int .i64))]

set_option maxRecDepth 100000 in
theorem single_contract (H : Type) (enc : TypeId × Value → H) (W : World) (base : Nat) (args : Array Value) (ds gs : List (DataW H)) (before : List MemPlace)
    (hval : ∀ (j : Nat) t v, Try.f4.params[j]? = some t → args[j]? = some v → Value.okWide Try.prog W .any base t v)
    (hW : DataW.Whole enc Try.prog Try.f4.params.toList Rows.custodySingleSpec.vars false W args.toList ds gs before) :
    Calls Try.prog 4 args W fun e W' => ∃ v, e = .returned v ∧ Rows.custodySingleSpec.post enc Try.prog Try.f4 false true false false W args v W' := by
  have hW' := hW
  obtain ⟨p, q, hA, hV, _, _, _⟩ := hW
  obtain ⟨rfl, rfl⟩ := trodVars_none hV
  have hC : CtrOk Try.prog 4 (lawCon tys4 fun _ => True).ctr := c4
  have hA' : DataW.TrodAll enc Try.prog W 0 (fun _ => true) true Try.f4.params.toList args.toList ds p := hA
  rw [Try.params4] at hA' hval
  have hv : ∀ (j : Nat) (t : TypeId) (v : Value), [3, 22, 3, 3, 22][j]? = some t → args.toList[j]? = some v → Value.okWide Try.prog W .any base t v := fun j t v h1 h2 => hval j t v (by rw [← h1]; exact List.getElem?_toArray) (by rw [Array.getElem?_toList] at h2; exact h2)
  refine (law_calls (bulk_ok H) hC (ts := [3, 22, 3, 3, 22]) (by kernel_rfl) (ds := ds) (ps := p) (base := base) hA' hv (fun _ _ _ => trivial)).mono fun e W' h => ?_
  obtain ⟨rfl, hb⟩ := h
  refine ⟨_, rfl, law_post laid (by kernel_rfl) (tb := 4) (by kernel_rfl) Try.underlying4 rfl ?_ hW' hb⟩
  obtain ⟨v0, vs0, d0, ds0, p0, q0, _, rfl, rfl, h0, r0⟩ := trodAll_cons hA'
  obtain ⟨v1, vs1, d1, ds1, p1, q1, _, rfl, rfl, h1, r1⟩ := trodAll_cons r0
  obtain ⟨v2, vs2, d2, ds2, p2, q2, _, rfl, rfl, h2, r2⟩ := trodAll_cons r1
  obtain ⟨v3, vs3, d3, ds3, p3, q3, _, rfl, rfl, h3, r3⟩ := trodAll_cons r2
  obtain ⟨v4, vs4, d4, ds4, p4, q4, _, rfl, rfl, h4, r4⟩ := trodAll_cons r3
  obtain ⟨_, rfl, _⟩ := trodAll_nil r4
  exact ⟨rfl, rfl, rfl⟩

set_option maxRecDepth 100000 in
theorem single_lifted (os : Os) (started : os.Started) (H : Type) (enc : TypeId × Value → H) :
    ReturnsInHanded {} Try.checked os 4 .any (Rows.custodySingleSpec.pre6 enc Try.prog Try.f4 Rows.custodySingleRow.domain false) (Rows.custodySingleSpec.post enc Try.prog Try.f4 false true false false) := by
  refine returnsInHanded_of_change (C := Try.checked) own started (by kernel_rfl) Try.func4
    (ChangeSpec.witness6 (enc := enc) (C := Try.checked) false ⟨#[], #[.int .i64 0, .slice none 0 0, .int .i64 0, .int .i64 0, .slice none 0 0], []⟩ 8 (by kernel_rfl) (by kernel_rfl) (by kernel_rfl) (by kernel_rfl)) ?_
  intro W base args ds gs before hval hW _ _
  exact single_contract H enc W base args ds gs before hval hW

theorem single_over : Rows.custodySingleRow.holds Try.pinned (OpenSpec.ofChange Rows.custodySingleSpec) :=
  OpenClaim.holds_of_wide 4 Try.f4 rfl rfl rfl rfl rfl rfl rfl ⟨rfl, rfl, rfl, rfl, rfl⟩ rfl rfl rfl rfl rfl (by kernel_rfl) Try.func4 (by kernel_rfl)
    (of_decide_eq_true (by kernel_rfl)) (by unfold Func.isWrapper; first | (rw [if_pos (by decide +kernel)]; kernel_rfl) | (rw [if_neg (by decide +kernel)]; exact ⟨rfl, rfl⟩))
    (fun os started H enc _ => single_lifted os started H enc)

theorem single_holds : Rows.CustodySingleSaid :=
  single_over
#print axioms single_holds
end Go.Proofs.Ythbcniifeeoplaa
