/-
  DERIVED. GIVEN WITH THE SEED: THE CARDS: each row of YtpfhhcjdknmbbaaGreatDoorRows.lean that lists a variable, with what it lists TIED to the program's text (the seventh form; the later family's looks); each row that meets fmt, with fmt's text TOLD by the authors' own Lean function (tested against real Go, not proved from fmt's source: count such statements apart). THE CARD IS WHAT COUNTS. Prove the row's statement (the work); the ties are given (YtpfhhcjdknmbbaaGreatDoorTie.lean); close each card by the builder's one call (the guide's Derived/Test/ToyasCard.lean, 'card_holds'). Laid BY PROGRAM, IN A SANDBOX (cutbox-door.mjs). By AI agents, Wed Nov 11 2026. No macro, syntax, notation, axiom, sorry.
-/
import Derived.Test.YtpfhhcjdknmbbaaGreatDoorRows
import GoSem.ClaimSeven
namespace Go.Proofs.YtpfhhcjdknmbbaaGreatDoor
namespace Rows

/-- THE TIED CARD OF 'seismonetlaw41.ArchiveOrder'. -/
def archiveOrderCard : Claim7 := { stood := { row := archiveOrderRow, standIns := [], harness := (true, "0723d0e91d30e18028688eb766d6d38f008322f2031fd278ea65bed70b4cddd5"), looks := false }, kinds := [], alts := [], laidByText := true, laidKinds := [.data, .pinned], laidTests := true, laidLooks := .later }
def ArchiveOrderCardSaid : Prop := Claim7.holds Tryz.pinned (.plain (OpenSpec.ofChange archiveOrderSpec)) archiveOrderCard

/-- THE TIED CARD OF 'seismonetlaw41.ArchiveStores'. -/
def archiveStoresCard : Claim7 := { stood := { row := archiveStoresRow, standIns := [], harness := (true, "0723d0e91d30e18028688eb766d6d38f008322f2031fd278ea65bed70b4cddd5"), looks := false }, kinds := [], alts := [], laidByText := true, laidKinds := [.data, .pinned], laidTests := true, laidLooks := .later }
def ArchiveStoresCardSaid : Prop := Claim7.holds Tryz.pinned (.plain (OpenSpec.ofChange archiveStoresSpec)) archiveStoresCard

/-- THE TIED CARD OF 'seismonetlaw41.ArchiveRequests'. -/
def archiveRequestsCard : Claim7 := { stood := { row := archiveRequestsRow, standIns := [], harness := (true, "0723d0e91d30e18028688eb766d6d38f008322f2031fd278ea65bed70b4cddd5"), looks := false }, kinds := [], alts := [], laidByText := true, laidKinds := [.data, .pinned], laidTests := true, laidLooks := .later }
def ArchiveRequestsCardSaid : Prop := Claim7.holds Tryz.pinned (.plain (OpenSpec.ofChange archiveRequestsSpec)) archiveRequestsCard

/-- THE TIED CARD OF 'seismonetlaw41.ArchiveChannels'. -/
def archiveChannelsCard : Claim7 := { stood := { row := archiveChannelsRow, standIns := [], harness := (true, "0723d0e91d30e18028688eb766d6d38f008322f2031fd278ea65bed70b4cddd5"), looks := false }, kinds := [], alts := [], laidByText := true, laidKinds := [.data, .pinned], laidTests := true, laidLooks := .later }
def ArchiveChannelsCardSaid : Prop := Claim7.holds Tryz.pinned (.plain (OpenSpec.ofChange archiveChannelsSpec)) archiveChannelsCard

/-- THE TIED CARD OF 'seismonetlaw41.ArchiveAnswers'. -/
def archiveAnswersCard : Claim7 := { stood := { row := archiveAnswersRow, standIns := [], harness := (true, "0723d0e91d30e18028688eb766d6d38f008322f2031fd278ea65bed70b4cddd5"), looks := false }, kinds := [], alts := [], laidByText := true, laidKinds := [.data, .pinned], laidTests := true, laidLooks := .later }
def ArchiveAnswersCardSaid : Prop := Claim7.holds Tryz.pinned (.plain (OpenSpec.ofChange archiveAnswersSpec)) archiveAnswersCard

/-- THE TIED CARD OF 'seismonetlaw41.ArchiveSplits'. -/
def archiveSplitsCard : Claim7 := { stood := { row := archiveSplitsRow, standIns := [], harness := (true, "0723d0e91d30e18028688eb766d6d38f008322f2031fd278ea65bed70b4cddd5"), looks := false }, kinds := [], alts := [], laidByText := true, laidKinds := [.data, .pinned], laidTests := true, laidLooks := .later }
def ArchiveSplitsCardSaid : Prop := Claim7.holds Tryz.pinned (.plain (OpenSpec.ofChange archiveSplitsSpec)) archiveSplitsCard

/-- THE SECOND FORM's CARD OF 'seismonetlaw41.ArchiveOrder'. -/
def archiveOrderUptoCard : Claim7 := { stood := { row := archiveOrderUptoRow, standIns := [], harness := (true, "0723d0e91d30e18028688eb766d6d38f008322f2031fd278ea65bed70b4cddd5"), looks := false }, kinds := [], alts := [], laidByText := true, laidKinds := [.data, .pinned], laidTests := true, laidLooks := .later }
def ArchiveOrderUptoCardSaid : Prop := Claim7.holds Tryz.pinned (.plain (OpenSpec.upto archiveOrderSpec)) archiveOrderUptoCard

/-- THE SECOND FORM's CARD OF 'seismonetlaw41.ArchiveStores'. -/
def archiveStoresUptoCard : Claim7 := { stood := { row := archiveStoresUptoRow, standIns := [], harness := (true, "0723d0e91d30e18028688eb766d6d38f008322f2031fd278ea65bed70b4cddd5"), looks := false }, kinds := [], alts := [], laidByText := true, laidKinds := [.data, .pinned], laidTests := true, laidLooks := .later }
def ArchiveStoresUptoCardSaid : Prop := Claim7.holds Tryz.pinned (.plain (OpenSpec.upto archiveStoresSpec)) archiveStoresUptoCard

/-- THE SECOND FORM's CARD OF 'seismonetlaw41.ArchiveRequests'. -/
def archiveRequestsUptoCard : Claim7 := { stood := { row := archiveRequestsUptoRow, standIns := [], harness := (true, "0723d0e91d30e18028688eb766d6d38f008322f2031fd278ea65bed70b4cddd5"), looks := false }, kinds := [], alts := [], laidByText := true, laidKinds := [.data, .pinned], laidTests := true, laidLooks := .later }
def ArchiveRequestsUptoCardSaid : Prop := Claim7.holds Tryz.pinned (.plain (OpenSpec.upto archiveRequestsSpec)) archiveRequestsUptoCard

/-- THE SECOND FORM's CARD OF 'seismonetlaw41.ArchiveChannels'. -/
def archiveChannelsUptoCard : Claim7 := { stood := { row := archiveChannelsUptoRow, standIns := [], harness := (true, "0723d0e91d30e18028688eb766d6d38f008322f2031fd278ea65bed70b4cddd5"), looks := false }, kinds := [], alts := [], laidByText := true, laidKinds := [.data, .pinned], laidTests := true, laidLooks := .later }
def ArchiveChannelsUptoCardSaid : Prop := Claim7.holds Tryz.pinned (.plain (OpenSpec.upto archiveChannelsSpec)) archiveChannelsUptoCard

/-- THE SECOND FORM's CARD OF 'seismonetlaw41.ArchiveAnswers'. -/
def archiveAnswersUptoCard : Claim7 := { stood := { row := archiveAnswersUptoRow, standIns := [], harness := (true, "0723d0e91d30e18028688eb766d6d38f008322f2031fd278ea65bed70b4cddd5"), looks := false }, kinds := [], alts := [], laidByText := true, laidKinds := [.data, .pinned], laidTests := true, laidLooks := .later }
def ArchiveAnswersUptoCardSaid : Prop := Claim7.holds Tryz.pinned (.plain (OpenSpec.upto archiveAnswersSpec)) archiveAnswersUptoCard

/-- THE SECOND FORM's CARD OF 'seismonetlaw41.ArchiveSplits'. -/
def archiveSplitsUptoCard : Claim7 := { stood := { row := archiveSplitsUptoRow, standIns := [], harness := (true, "0723d0e91d30e18028688eb766d6d38f008322f2031fd278ea65bed70b4cddd5"), looks := false }, kinds := [], alts := [], laidByText := true, laidKinds := [.data, .pinned], laidTests := true, laidLooks := .later }
def ArchiveSplitsUptoCardSaid : Prop := Claim7.holds Tryz.pinned (.plain (OpenSpec.upto archiveSplitsSpec)) archiveSplitsUptoCard
end Rows
end Go.Proofs.YtpfhhcjdknmbbaaGreatDoor
