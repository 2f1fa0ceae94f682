/-
  What the row of JoinCheckTables says of the program's calls (which functions they reach) is so.
-/
import Derived.Test.YtcgbaefojdoicaaGreatRows
import Derived.JoinedOf
import Derived.KernelRfl
set_option linter.all false
set_option maxRecDepth 100000
namespace Go.Proofs.YtcgbaefojdoicaaGreat.joinCheckTablesF

theorem inPlace : (Rows.joinCheckTablesRow.inPlace == Program.inPlace Tryz.pinned.checked.prog 7) = true := by kernel_rfl
theorem unfollowed : (Rows.joinCheckTablesRow.unfollowed == Program.unfollowed Tryz.pinned.checked.prog 7) = true := by kernel_rfl
theorem recurses : (Rows.joinCheckTablesRow.recurses == Program.recurses Tryz.pinned.checked.prog 7) = true := by kernel_rfl
theorem named : (Rows.joinCheckTablesRow.named == Program.varsNamed Tryz.pinned.checked.prog 7) = true := by kernel_rfl
theorem laid : laidOutB Tryz.pinned.checked.prog = true := by kernel_rfl
theorem closed : joinedFacts Tryz.pinned.checked.prog 7 Tryz.f7 Rows.joinCheckTablesSpec Rows.joinCheckTablesRow = true := by
  unfold joinedFacts
  rw [inPlace, unfollowed, recurses, named, laid]
  kernel_rfl
end Go.Proofs.YtcgbaefojdoicaaGreat.joinCheckTablesF
