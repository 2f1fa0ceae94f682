/-
  What the row of CellHalves says of the program's calls (which functions they reach) is so.
-/
import Derived.Test.YtooepbnecjepnaaGreatRows
import Derived.JoinedOf
import Derived.KernelRfl
set_option linter.all false
set_option maxRecDepth 100000
namespace Go.Proofs.YtooepbnecjepnaaGreat.cellHalvesF

theorem inPlace : (Rows.cellHalvesRow.inPlace == Program.inPlace Tryz.pinned.checked.prog 4) = true := by kernel_rfl
theorem unfollowed : (Rows.cellHalvesRow.unfollowed == Program.unfollowed Tryz.pinned.checked.prog 4) = true := by kernel_rfl
theorem recurses : (Rows.cellHalvesRow.recurses == Program.recurses Tryz.pinned.checked.prog 4) = true := by kernel_rfl
theorem named : (Rows.cellHalvesRow.named == Program.varsNamed Tryz.pinned.checked.prog 4) = true := by kernel_rfl
theorem laid : laidOutB Tryz.pinned.checked.prog = true := by kernel_rfl
theorem closed : joinedFacts Tryz.pinned.checked.prog 4 Tryz.f4 Rows.cellHalvesSpec Rows.cellHalvesRow = true := by
  unfold joinedFacts
  rw [inPlace, unfollowed, recurses, named, laid]
  kernel_rfl
end Go.Proofs.YtooepbnecjepnaaGreat.cellHalvesF
