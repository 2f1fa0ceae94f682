/-
  What the row of JoinVerdicts says of the program's calls (which functions they reach) is so.
-/
import Derived.Test.YtkifimaihfildaaGreatRows
import Derived.JoinedOf
import Derived.KernelRfl
set_option linter.all false
set_option maxRecDepth 100000
namespace Go.Proofs.YtkifimaihfildaaGreat.joinVerdictsF

theorem inPlace : (Rows.joinVerdictsRow.inPlace == Program.inPlace Tryz.pinned.checked.prog 4) = true := by kernel_rfl
theorem unfollowed : (Rows.joinVerdictsRow.unfollowed == Program.unfollowed Tryz.pinned.checked.prog 4) = true := by kernel_rfl
theorem recurses : (Rows.joinVerdictsRow.recurses == Program.recurses Tryz.pinned.checked.prog 4) = true := by kernel_rfl
theorem named : (Rows.joinVerdictsRow.named == Program.varsNamed Tryz.pinned.checked.prog 4) = true := by kernel_rfl
theorem laid : laidOutB Tryz.pinned.checked.prog = true := by kernel_rfl
theorem closed : joinedFacts Tryz.pinned.checked.prog 4 Tryz.f4 Rows.joinVerdictsSpec Rows.joinVerdictsRow = true := by
  unfold joinedFacts
  rw [inPlace, unfollowed, recurses, named, laid]
  kernel_rfl
end Go.Proofs.YtkifimaihfildaaGreat.joinVerdictsF
