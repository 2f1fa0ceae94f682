/-
  What the row of JoinCheckVerdicts says of the program's calls (which functions they reach) is so.
-/
import Derived.Test.YtcgbaefojdoicaaGreatRows
import Derived.JoinedOf
import Derived.KernelRfl
set_option linter.all false
set_option maxRecDepth 100000
namespace Go.Proofs.YtcgbaefojdoicaaGreat.joinCheckVerdictsF

theorem inPlace : (Rows.joinCheckVerdictsUptoRow.inPlace == Program.inPlace Tryz.pinned.checked.prog 5) = true := by kernel_rfl
theorem unfollowed : (Rows.joinCheckVerdictsUptoRow.unfollowed == Program.unfollowed Tryz.pinned.checked.prog 5) = true := by kernel_rfl
theorem recurses : (Rows.joinCheckVerdictsUptoRow.recurses == Program.recurses Tryz.pinned.checked.prog 5) = true := by kernel_rfl
theorem named : (Rows.joinCheckVerdictsUptoRow.named == Program.varsNamed Tryz.pinned.checked.prog 5) = true := by kernel_rfl
theorem laid : laidOutB Tryz.pinned.checked.prog = true := by kernel_rfl
theorem closed : joinedFacts Tryz.pinned.checked.prog 5 Tryz.f5 (Rows.OpenSpec.upto Rows.joinCheckVerdictsSpec).bare Rows.joinCheckVerdictsUptoRow = true := by
  unfold joinedFacts
  rw [inPlace, unfollowed, recurses, named, laid]
  kernel_rfl
end Go.Proofs.YtcgbaefojdoicaaGreat.joinCheckVerdictsF
