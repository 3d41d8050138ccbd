/-
  The row of ArchiveOrder holds.
-/
import Derived.Test.YtpfhhcjdknmbbaaGreatDoorH1
import Derived.Test.YtpfhhcjdknmbbaaGreatDoorH2
import Derived.Test.YtpfhhcjdknmbbaaGreatDoorH3
set_option linter.all false
set_option linter.unusedSimpArgs false
set_option linter.unusedVariables false
namespace Go.Proofs.YtpfhhcjdknmbbaaGreatDoor
open Go.ChangeShapes Go.WideShapes Go.ChangeAt Go.RowKit Go.DM
set_option linter.unusedVariables false
set_option maxRecDepth 100000
theorem archiveOrder_holds : Rows.ArchiveOrderSaid :=
  OpenClaim.holds_of_wide 3 Tryz.f3 rfl rfl rfl rfl rfl rfl rfl ⟨rfl, rfl, rfl, rfl, rfl⟩ rfl rfl rfl rfl rfl archiveOrder_named Tryz.func3 archiveOrder_facts
    archiveOrder_inst archiveOrder_wrap
    (fun os started H enc _ => archiveOrder_lifted os started H enc)
end Go.Proofs.YtpfhhcjdknmbbaaGreatDoor
