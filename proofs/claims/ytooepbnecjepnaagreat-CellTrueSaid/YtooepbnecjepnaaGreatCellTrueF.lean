/-
  What the row of CellTrue says of the program's calls (which functions they reach) is so.
-/
import Derived.Test.YtooepbnecjepnaaGreatRows
import Derived.JoinedOf
import Derived.KernelRfl
set_option linter.all false
set_option maxRecDepth 100000
namespace Go.Proofs.YtooepbnecjepnaaGreat.cellTrueF

theorem inPlace : (Rows.cellTrueRow.inPlace == Program.inPlace Tryz.pinned.checked.prog 5) = true := by kernel_rfl
theorem unfollowed : (Rows.cellTrueRow.unfollowed == Program.unfollowed Tryz.pinned.checked.prog 5) = true := by kernel_rfl
theorem recurses : (Rows.cellTrueRow.recurses == Program.recurses Tryz.pinned.checked.prog 5) = true := by kernel_rfl
theorem named : (Rows.cellTrueRow.named == Program.varsNamed Tryz.pinned.checked.prog 5) = true := by kernel_rfl
theorem laid : laidOutB Tryz.pinned.checked.prog = true := by kernel_rfl
theorem closed : joinedFacts Tryz.pinned.checked.prog 5 Tryz.f5 Rows.cellTrueSpec Rows.cellTrueRow = true := by
  unfold joinedFacts
  rw [inPlace, unfollowed, recurses, named, laid]
  kernel_rfl
end Go.Proofs.YtooepbnecjepnaaGreat.cellTrueF
