/-
  What the row of JoinTablesDecide says of the program's calls (which functions they reach) is so.
-/
import Derived.Test.YtcgbaefojdoicaaGreatRows
import Derived.JoinedOf
import Derived.KernelRfl
set_option linter.all false
set_option maxRecDepth 100000
namespace Go.Proofs.YtcgbaefojdoicaaGreat.joinTablesDecideF

theorem inPlace : (Rows.joinTablesDecideUptoRow.inPlace == Program.inPlace Tryz.pinned.checked.prog 8) = true := by kernel_rfl
theorem unfollowed : (Rows.joinTablesDecideUptoRow.unfollowed == Program.unfollowed Tryz.pinned.checked.prog 8) = true := by kernel_rfl
theorem recurses : (Rows.joinTablesDecideUptoRow.recurses == Program.recurses Tryz.pinned.checked.prog 8) = true := by kernel_rfl
theorem named : (Rows.joinTablesDecideUptoRow.named == Program.varsNamed Tryz.pinned.checked.prog 8) = true := by kernel_rfl
theorem laid : laidOutB Tryz.pinned.checked.prog = true := by kernel_rfl
theorem closed : joinedFacts Tryz.pinned.checked.prog 8 Tryz.f8 (Rows.OpenSpec.upto Rows.joinTablesDecideSpec).bare Rows.joinTablesDecideUptoRow = true := by
  unfold joinedFacts
  rw [inPlace, unfollowed, recurses, named, laid]
  kernel_rfl
end Go.Proofs.YtcgbaefojdoicaaGreat.joinTablesDecideF
