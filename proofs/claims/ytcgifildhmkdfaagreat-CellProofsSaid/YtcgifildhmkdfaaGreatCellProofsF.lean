/-
  What the row of CellProofs says of the program's calls (which functions they reach) is so.
-/
import Derived.Test.YtcgifildhmkdfaaGreatRows
import Derived.JoinedOf
import Derived.KernelRfl
set_option linter.all false
set_option maxRecDepth 100000
namespace Go.Proofs.YtcgifildhmkdfaaGreat.cellProofsF

theorem inPlace : (Rows.cellProofsRow.inPlace == Program.inPlace Tryz.pinned.checked.prog 8) = true := by kernel_rfl
theorem unfollowed : (Rows.cellProofsRow.unfollowed == Program.unfollowed Tryz.pinned.checked.prog 8) = true := by kernel_rfl
theorem recurses : (Rows.cellProofsRow.recurses == Program.recurses Tryz.pinned.checked.prog 8) = true := by kernel_rfl
theorem named : (Rows.cellProofsRow.named == Program.varsNamed Tryz.pinned.checked.prog 8) = true := by kernel_rfl
theorem laid : laidOutB Tryz.pinned.checked.prog = true := by kernel_rfl
theorem closed : joinedFacts Tryz.pinned.checked.prog 8 Tryz.f8 Rows.cellProofsSpec Rows.cellProofsRow = true := by
  unfold joinedFacts
  rw [inPlace, unfollowed, recurses, named, laid]
  kernel_rfl
end Go.Proofs.YtcgifildhmkdfaaGreat.cellProofsF
