/-
  What the row of JoinParts says of the program's calls (which functions they reach) is so.
-/
import Derived.Test.YtkifimaihfildaaGreatRows
import Derived.JoinedOf
import Derived.KernelRfl
set_option linter.all false
set_option maxRecDepth 100000
namespace Go.Proofs.YtkifimaihfildaaGreat.joinPartsF

theorem inPlace : (Rows.joinPartsRow.inPlace == Program.inPlace Tryz.pinned.checked.prog 6) = true := by kernel_rfl
theorem unfollowed : (Rows.joinPartsRow.unfollowed == Program.unfollowed Tryz.pinned.checked.prog 6) = true := by kernel_rfl
theorem recurses : (Rows.joinPartsRow.recurses == Program.recurses Tryz.pinned.checked.prog 6) = true := by kernel_rfl
theorem named : (Rows.joinPartsRow.named == Program.varsNamed Tryz.pinned.checked.prog 6) = true := by kernel_rfl
theorem laid : laidOutB Tryz.pinned.checked.prog = true := by kernel_rfl
theorem closed : joinedFacts Tryz.pinned.checked.prog 6 Tryz.f6 Rows.joinPartsSpec Rows.joinPartsRow = true := by
  unfold joinedFacts
  rw [inPlace, unfollowed, recurses, named, laid]
  kernel_rfl
end Go.Proofs.YtkifimaihfildaaGreat.joinPartsF
