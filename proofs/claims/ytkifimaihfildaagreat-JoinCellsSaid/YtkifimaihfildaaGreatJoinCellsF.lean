/-
  What the row of JoinCells says of the program's calls (which functions they reach) is so.
-/
import Derived.Test.YtkifimaihfildaaGreatRows
import Derived.JoinedOf
import Derived.KernelRfl
set_option linter.all false
set_option maxRecDepth 100000
namespace Go.Proofs.YtkifimaihfildaaGreat.joinCellsF

theorem inPlace : (Rows.joinCellsRow.inPlace == Program.inPlace Tryz.pinned.checked.prog 5) = true := by kernel_rfl
theorem unfollowed : (Rows.joinCellsRow.unfollowed == Program.unfollowed Tryz.pinned.checked.prog 5) = true := by kernel_rfl
theorem recurses : (Rows.joinCellsRow.recurses == Program.recurses Tryz.pinned.checked.prog 5) = true := by kernel_rfl
theorem named : (Rows.joinCellsRow.named == Program.varsNamed Tryz.pinned.checked.prog 5) = true := by kernel_rfl
theorem laid : laidOutB Tryz.pinned.checked.prog = true := by kernel_rfl
theorem closed : joinedFacts Tryz.pinned.checked.prog 5 Tryz.f5 Rows.joinCellsSpec Rows.joinCellsRow = true := by
  unfold joinedFacts
  rw [inPlace, unfollowed, recurses, named, laid]
  kernel_rfl
end Go.Proofs.YtkifimaihfildaaGreat.joinCellsF
