/-
  The row of ArchiveOrder: its closed facts.
-/
import Derived.Test.YtpfhhcjdknmbbaaGreatDoorCards
import Derived.Test.YtpfhhcjdknmbbaaGreatDoorTie
import Derived.ProofKit
import Derived.OpenShut
import Derived.LaidMore
import Derived.Lay
import Derived.SevenTiedAt
import Derived.Stop.Joined
import Derived.ChangeOld
import Derived.SizedLaws
set_option linter.all false
set_option linter.unusedSimpArgs false
set_option linter.unusedVariables false
namespace Go.Proofs.YtpfhhcjdknmbbaaGreatDoor
set_option linter.unusedVariables false
set_option maxRecDepth 100000
theorem archiveOrder_facts : joinedFacts Tryz.pinned.checked.prog 3 Tryz.f3 Rows.archiveOrderSpec Rows.archiveOrderRow = true := by kernel_rfl
end Go.Proofs.YtpfhhcjdknmbbaaGreatDoor
