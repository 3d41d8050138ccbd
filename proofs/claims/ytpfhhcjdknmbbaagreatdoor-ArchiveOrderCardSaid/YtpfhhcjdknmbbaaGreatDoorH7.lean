/-
  'seismonetlaw41.ArchiveOrder' returns true for every input, and its arguments read behind the call as they read before: the tied card (two package-level variables start as the program's text lays them).
-/
import Derived.Test.YtpfhhcjdknmbbaaGreatDoorH4
import Derived.Test.YtpfhhcjdknmbbaaGreatDoorH5
import Derived.Test.YtpfhhcjdknmbbaaGreatDoorH6
set_option linter.all false
set_option linter.unusedSimpArgs false
set_option linter.unusedVariables false
namespace Go.Proofs.YtpfhhcjdknmbbaaGreatDoor
set_option linter.unusedVariables false
set_option maxRecDepth 100000
theorem archiveOrder_card_holds : Rows.ArchiveOrderCardSaid :=
  Claim7.holds_tied_plain_at .later [] [.data, .pinned] true (true, "0723d0e91d30e18028688eb766d6d38f008322f2031fd278ea65bed70b4cddd5") false archiveOrder_holds (fun _ h => by cases h) archiveOrder_text (fun _ h => by cases h) archiveOrder_row_tie rfl ⟨rfl, rfl⟩ seat_main rfl
    (fun f fn hf hfn => by
      obtain rfl : f = 3 := Option.some.inj (archiveOrder_named.symm.trans hf) |>.symm
      obtain rfl : fn = Tryz.f3 := (Option.some.inj (Tryz.func3.symm.trans hfn)).symm
      exact ⟨seat_looks, fun j t ht => by
        rw [Tryz.params3] at ht
        have hm : t ∈ [22, 22] := by simpa using Array.mem_of_getElem? ht
        have : t = 22 := by simpa using hm
        subst this
        exact seat_standIn22⟩)
    archiveOrder_goes
#print axioms archiveOrder_card_holds
end Go.Proofs.YtpfhhcjdknmbbaaGreatDoor
