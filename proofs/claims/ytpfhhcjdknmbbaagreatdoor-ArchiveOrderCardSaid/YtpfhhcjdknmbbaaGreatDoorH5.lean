/-
  The row of ArchiveOrder: its card's closed facts.
-/
import Derived.Test.YtpfhhcjdknmbbaaGreatDoorCards
import Derived.Test.YtpfhhcjdknmbbaaGreatDoorTie
import Derived.ProofKit
import Derived.OpenShut
import Derived.LaidMore
import Derived.Lay
import Derived.SevenTiedAt
import Derived.Stop.Joined
import Derived.ChangeOld
import Derived.SizedLaws
set_option linter.all false
set_option linter.unusedSimpArgs false
set_option linter.unusedVariables false
namespace Go.Proofs.YtpfhhcjdknmbbaaGreatDoor
set_option linter.unusedVariables false
set_option maxRecDepth 100000
theorem archiveOrder_text : Rows.archiveOrderRow.wfByText (OpenSpec.ofChange Rows.archiveOrderSpec) = true := by kernel_rfl
theorem seat_main : Tryz.pinned.checked.prog.mainIs = some (true, "0723d0e91d30e18028688eb766d6d38f008322f2031fd278ea65bed70b4cddd5".toList) := by kernel_rfl
theorem seat_standIn22 : Tryz.prog.wantsStandIn 22 = false := by kernel_rfl
theorem seat_looks : false = Tryz.pinned.checked.prog.looks [] := by kernel_rfl
end Go.Proofs.YtpfhhcjdknmbbaaGreatDoor
