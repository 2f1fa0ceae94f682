/-
  What the row of CellProves says of the program's calls (which functions they reach) is so.
-/
import Derived.Test.YtcgifildhmkdfaaGreatRows
import Derived.JoinedOf
import Derived.KernelRfl
set_option linter.all false
set_option maxRecDepth 100000
namespace Go.Proofs.YtcgifildhmkdfaaGreat.cellProvesF

theorem inPlace : (Rows.cellProvesRow.inPlace == Program.inPlace Tryz.pinned.checked.prog 10) = true := by kernel_rfl
theorem unfollowed : (Rows.cellProvesRow.unfollowed == Program.unfollowed Tryz.pinned.checked.prog 10) = true := by kernel_rfl
theorem recurses : (Rows.cellProvesRow.recurses == Program.recurses Tryz.pinned.checked.prog 10) = true := by kernel_rfl
theorem named : (Rows.cellProvesRow.named == Program.varsNamed Tryz.pinned.checked.prog 10) = true := by kernel_rfl
theorem laid : laidOutB Tryz.pinned.checked.prog = true := by kernel_rfl
theorem closed : joinedFacts Tryz.pinned.checked.prog 10 Tryz.f10 Rows.cellProvesSpec Rows.cellProvesRow = true := by
  unfold joinedFacts
  rw [inPlace, unfollowed, recurses, named, laid]
  kernel_rfl
end Go.Proofs.YtcgifildhmkdfaaGreat.cellProvesF
