/- The bulk of the second form's premise fits our reading of data; the program's frame. -/
import Derived.Test.YtdmgmdppejopcaaMkTab
import Derived.Test.YtdmgmdppejopcaaEvLaw
import Derived.WalkKit
import Derived.ProofKit
namespace Go.Proofs.Ytdmgmdppejopcaa
open Go.Ev Go.ChangeShapes Go.WideShapes Go.ChangeAt Go.RowKit

theorem bulk_ok (H : Type) : Bulk (H := H) Rows.uptoBulk Rows.uptoBulkAll where
  lit l := by cases l <;> simp [Rows.uptoBulk]
  str b := by simp [Rows.uptoBulk]
  nil := by simp [Rows.uptoBulk]
  sl a b := by simp only [Rows.uptoBulk]; omega
  agg a := by simp only [Rows.uptoBulk]; omega
  cons d r := by simp only [Rows.uptoBulkAll]

theorem own : ownKnob Try.prog.godebug = none := by kernel_rfl
theorem laid : laidOutB Try.prog = true := by kernel_rfl
end Go.Proofs.Ytdmgmdppejopcaa
