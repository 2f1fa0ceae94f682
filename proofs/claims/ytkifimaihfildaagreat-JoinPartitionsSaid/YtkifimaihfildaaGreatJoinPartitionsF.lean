/-
  What the row of JoinPartitions says of the program's calls (which functions they reach) is so.
-/
import Derived.Test.YtkifimaihfildaaGreatRows
import Derived.JoinedOf
import Derived.KernelRfl
set_option linter.all false
set_option maxRecDepth 100000
namespace Go.Proofs.YtkifimaihfildaaGreat.joinPartitionsF

theorem inPlace : (Rows.joinPartitionsRow.inPlace == Program.inPlace Tryz.pinned.checked.prog 7) = true := by kernel_rfl
theorem unfollowed : (Rows.joinPartitionsRow.unfollowed == Program.unfollowed Tryz.pinned.checked.prog 7) = true := by kernel_rfl
theorem recurses : (Rows.joinPartitionsRow.recurses == Program.recurses Tryz.pinned.checked.prog 7) = true := by kernel_rfl
theorem named : (Rows.joinPartitionsRow.named == Program.varsNamed Tryz.pinned.checked.prog 7) = true := by kernel_rfl
theorem laid : laidOutB Tryz.pinned.checked.prog = true := by kernel_rfl
theorem closed : joinedFacts Tryz.pinned.checked.prog 7 Tryz.f7 Rows.joinPartitionsSpec Rows.joinPartitionsRow = true := by
  unfold joinedFacts
  rw [inPlace, unfollowed, recurses, named, laid]
  kernel_rfl
end Go.Proofs.YtkifimaihfildaaGreat.joinPartitionsF
