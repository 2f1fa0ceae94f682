/-
  What the row of CellOneByOne says of the program's calls (which functions they reach) is so.
-/
import Derived.Test.YtcgifildhmkdfaaGreatRows
import Derived.JoinedOf
import Derived.KernelRfl
set_option linter.all false
set_option maxRecDepth 100000
namespace Go.Proofs.YtcgifildhmkdfaaGreat.cellOneByOneF

theorem inPlace : (Rows.cellOneByOneRow.inPlace == Program.inPlace Tryz.pinned.checked.prog 11) = true := by kernel_rfl
theorem unfollowed : (Rows.cellOneByOneRow.unfollowed == Program.unfollowed Tryz.pinned.checked.prog 11) = true := by kernel_rfl
theorem recurses : (Rows.cellOneByOneRow.recurses == Program.recurses Tryz.pinned.checked.prog 11) = true := by kernel_rfl
theorem named : (Rows.cellOneByOneRow.named == Program.varsNamed Tryz.pinned.checked.prog 11) = true := by kernel_rfl
theorem laid : laidOutB Tryz.pinned.checked.prog = true := by kernel_rfl
theorem closed : joinedFacts Tryz.pinned.checked.prog 11 Tryz.f11 Rows.cellOneByOneSpec Rows.cellOneByOneRow = true := by
  unfold joinedFacts
  rw [inPlace, unfollowed, recurses, named, laid]
  kernel_rfl
end Go.Proofs.YtcgifildhmkdfaaGreat.cellOneByOneF
