/-
  The row of ArchiveOrder: its closed facts.
-/
import Derived.Test.YtpfhhcjdknmbbaaGreatDoorCards
import Derived.Test.YtpfhhcjdknmbbaaGreatDoorTie
import Derived.ProofKit
import Derived.OpenShut
import Derived.LaidMore
import Derived.Lay
import Derived.SevenTiedAt
import Derived.Stop.Joined
import Derived.ChangeOld
import Derived.SizedLaws
set_option linter.all false
set_option linter.unusedSimpArgs false
set_option linter.unusedVariables false
namespace Go.Proofs.YtpfhhcjdknmbbaaGreatDoor
set_option linter.unusedVariables false
set_option maxRecDepth 100000
theorem archiveOrder_inst : Tryz.f3.isInstance Tryz.pinned.checked.prog Rows.archiveOrderRow.origin Rows.archiveOrderRow.targs := of_decide_eq_true (by kernel_rfl)
theorem archiveOrder_named : Tryz.pinned.checked.prog.funcNamed Rows.archiveOrderRow.func = some 3 := by kernel_rfl
theorem archiveOrder_wrap : Tryz.f3.isWrapper Tryz.pinned.checked.prog Rows.archiveOrderRow.wrapper Rows.archiveOrderRow.mainSum := by unfold Func.isWrapper; first | (rw [if_pos (by decide +kernel)]; kernel_rfl) | (rw [if_neg (by decide +kernel)]; exact ⟨rfl, rfl⟩)
end Go.Proofs.YtpfhhcjdknmbbaaGreatDoor
