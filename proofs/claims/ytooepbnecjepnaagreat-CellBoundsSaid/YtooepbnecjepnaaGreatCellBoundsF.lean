/-
  What the row of CellBounds says of the program's calls (which functions they reach) is so.
-/
import Derived.Test.YtooepbnecjepnaaGreatRows
import Derived.JoinedOf
import Derived.KernelRfl
set_option linter.all false
set_option maxRecDepth 100000
namespace Go.Proofs.YtooepbnecjepnaaGreat.cellBoundsF

theorem inPlace : (Rows.cellBoundsRow.inPlace == Program.inPlace Tryz.pinned.checked.prog 6) = true := by kernel_rfl
theorem unfollowed : (Rows.cellBoundsRow.unfollowed == Program.unfollowed Tryz.pinned.checked.prog 6) = true := by kernel_rfl
theorem recurses : (Rows.cellBoundsRow.recurses == Program.recurses Tryz.pinned.checked.prog 6) = true := by kernel_rfl
theorem named : (Rows.cellBoundsRow.named == Program.varsNamed Tryz.pinned.checked.prog 6) = true := by kernel_rfl
theorem laid : laidOutB Tryz.pinned.checked.prog = true := by kernel_rfl
theorem closed : joinedFacts Tryz.pinned.checked.prog 6 Tryz.f6 Rows.cellBoundsSpec Rows.cellBoundsRow = true := by
  unfold joinedFacts
  rw [inPlace, unfollowed, recurses, named, laid]
  kernel_rfl
end Go.Proofs.YtooepbnecjepnaaGreat.cellBoundsF
