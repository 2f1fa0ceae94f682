/-
  What the row of JoinTables says of the program's calls (which functions they reach) is so.
-/
import Derived.Test.YtkifimaihfildaaGreatRows
import Derived.JoinedOf
import Derived.KernelRfl
set_option linter.all false
set_option maxRecDepth 100000
namespace Go.Proofs.YtkifimaihfildaaGreat.joinTablesF

theorem inPlace : (Rows.joinTablesRow.inPlace == Program.inPlace Tryz.pinned.checked.prog 3) = true := by kernel_rfl
theorem unfollowed : (Rows.joinTablesRow.unfollowed == Program.unfollowed Tryz.pinned.checked.prog 3) = true := by kernel_rfl
theorem recurses : (Rows.joinTablesRow.recurses == Program.recurses Tryz.pinned.checked.prog 3) = true := by kernel_rfl
theorem named : (Rows.joinTablesRow.named == Program.varsNamed Tryz.pinned.checked.prog 3) = true := by kernel_rfl
theorem laid : laidOutB Tryz.pinned.checked.prog = true := by kernel_rfl
theorem closed : joinedFacts Tryz.pinned.checked.prog 3 Tryz.f3 Rows.joinTablesSpec Rows.joinTablesRow = true := by
  unfold joinedFacts
  rw [inPlace, unfollowed, recurses, named, laid]
  kernel_rfl
end Go.Proofs.YtkifimaihfildaaGreat.joinTablesF
