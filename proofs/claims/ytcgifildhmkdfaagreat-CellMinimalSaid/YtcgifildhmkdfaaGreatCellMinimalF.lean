/-
  What the row of CellMinimal says of the program's calls (which functions they reach) is so.
-/
import Derived.Test.YtcgifildhmkdfaaGreatRows
import Derived.JoinedOf
import Derived.KernelRfl
set_option linter.all false
set_option maxRecDepth 100000
namespace Go.Proofs.YtcgifildhmkdfaaGreat.cellMinimalF

theorem inPlace : (Rows.cellMinimalRow.inPlace == Program.inPlace Tryz.pinned.checked.prog 5) = true := by kernel_rfl
theorem unfollowed : (Rows.cellMinimalRow.unfollowed == Program.unfollowed Tryz.pinned.checked.prog 5) = true := by kernel_rfl
theorem recurses : (Rows.cellMinimalRow.recurses == Program.recurses Tryz.pinned.checked.prog 5) = true := by kernel_rfl
theorem named : (Rows.cellMinimalRow.named == Program.varsNamed Tryz.pinned.checked.prog 5) = true := by kernel_rfl
theorem laid : laidOutB Tryz.pinned.checked.prog = true := by kernel_rfl
theorem closed : joinedFacts Tryz.pinned.checked.prog 5 Tryz.f5 Rows.cellMinimalSpec Rows.cellMinimalRow = true := by
  unfold joinedFacts
  rw [inPlace, unfollowed, recurses, named, laid]
  kernel_rfl
end Go.Proofs.YtcgifildhmkdfaaGreat.cellMinimalF
