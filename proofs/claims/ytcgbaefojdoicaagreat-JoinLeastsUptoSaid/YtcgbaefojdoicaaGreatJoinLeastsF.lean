/-
  What the row of JoinLeasts says of the program's calls (which functions they reach) is so.
-/
import Derived.Test.YtcgbaefojdoicaaGreatRows
import Derived.JoinedOf
import Derived.KernelRfl
set_option linter.all false
set_option maxRecDepth 100000
namespace Go.Proofs.YtcgbaefojdoicaaGreat.joinLeastsF

theorem inPlace : (Rows.joinLeastsUptoRow.inPlace == Program.inPlace Tryz.pinned.checked.prog 4) = true := by kernel_rfl
theorem unfollowed : (Rows.joinLeastsUptoRow.unfollowed == Program.unfollowed Tryz.pinned.checked.prog 4) = true := by kernel_rfl
theorem recurses : (Rows.joinLeastsUptoRow.recurses == Program.recurses Tryz.pinned.checked.prog 4) = true := by kernel_rfl
theorem named : (Rows.joinLeastsUptoRow.named == Program.varsNamed Tryz.pinned.checked.prog 4) = true := by kernel_rfl
theorem laid : laidOutB Tryz.pinned.checked.prog = true := by kernel_rfl
theorem closed : joinedFacts Tryz.pinned.checked.prog 4 Tryz.f4 (Rows.OpenSpec.upto Rows.joinLeastsSpec).bare Rows.joinLeastsUptoRow = true := by
  unfold joinedFacts
  rw [inPlace, unfollowed, recurses, named, laid]
  kernel_rfl
end Go.Proofs.YtcgbaefojdoicaaGreat.joinLeastsF
