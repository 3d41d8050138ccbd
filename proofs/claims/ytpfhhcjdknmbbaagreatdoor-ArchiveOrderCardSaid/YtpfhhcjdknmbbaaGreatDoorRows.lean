/-
  NARROWER THAN 'FOR EVERY INPUT', by the rows' own cells (each row's printed sentence says how): ArchiveOrder: laid · ArchiveStores: laid · ArchiveRequests: laid · ArchiveChannels: laid · ArchiveAnswers: laid · ArchiveSplits: laid.
  DERIVED. THE GIVEN ROWS OF THIS SEAT. 6 by the template 'for every input the law returns true; each argument reads behind the call as it read before'; 0 by the template 'total and deterministic' (their statements: YtpfhhcjdknmbbaaGreatDoorTotals.lean).
  GIVEN WITH THE SEED: the statements are not yours to turn. If you find one false, say at which input.
  Laid BY PROGRAM, IN A SANDBOX (cutbox-rows.mjs): the forced cells as the released guide's own fill.sh prints them over the translation b474505edc9b5cee… (all of the seat's roots in one cut). By AI agents, Wed Nov 11 2026. No macro, syntax, notation, axiom, sorry.
-/
import Derived.Test.YtpfhhcjdknmbbaaGreatDoorChecked
import GoSem.PinnedTables
import GoSem.Claim
import GoSem.ClaimJoined
import GoSem.ClaimMapViews
import Derived.JoinedTies
import Derived.KernelRfl
namespace Go.Proofs.YtpfhhcjdknmbbaaGreatDoor
/- THE CELL 'sum', in the pinned program and in every row, IS THE sha256 OF THE DUMP (.gsa) THAT YtpfhhcjdknmbbaaGreatDoorProg.lean LOADS. Nothing in Lean hashes anything: it is a label: what it is worth is what the hold of that sum in a sandbox is worth. -/
noncomputable def Tryz.pinned : Pinned := { name := "ytpfhhcjdknmbbaagreatdoor", sum := "b474505edc9b5cee1c0401e6ea3689c1c86aaeba7ec69719e47e5f5f1a9a459f", checked := Tryz.checked }
namespace Rows
def none {H : Type} : Left H := { results := [], args := [] }

/- WHAT THE LISTED PACKAGE-LEVEL VARIABLES READ AS WHEN THE CALL BEGINS. Each datum BY PROGRAM (the guide's laid-datum.mjs) off the statement by which the dump's own 'gosem.cut.vars' lays the variable. In a bare row this is a premise. The card (YtpfhhcjdknmbbaaGreatDoorCards.lean) ties it to the program's text. -/
def laid_unicode_utf8_acceptRanges {H : Type} : DataW H := .agg [.agg [.lit (.int .u8 128), .lit (.int .u8 191)], .agg [.lit (.int .u8 160), .lit (.int .u8 191)], .agg [.lit (.int .u8 128), .lit (.int .u8 159)], .agg [.lit (.int .u8 144), .lit (.int .u8 191)], .agg [.lit (.int .u8 128), .lit (.int .u8 143)], .agg [.lit (.int .u8 0), .lit (.int .u8 0)], .agg [.lit (.int .u8 0), .lit (.int .u8 0)], .agg [.lit (.int .u8 0), .lit (.int .u8 0)], .agg [.lit (.int .u8 0), .lit (.int .u8 0)], .agg [.lit (.int .u8 0), .lit (.int .u8 0)], .agg [.lit (.int .u8 0), .lit (.int .u8 0)], .agg [.lit (.int .u8 0), .lit (.int .u8 0)], .agg [.lit (.int .u8 0), .lit (.int .u8 0)], .agg [.lit (.int .u8 0), .lit (.int .u8 0)], .agg [.lit (.int .u8 0), .lit (.int .u8 0)], .agg [.lit (.int .u8 0), .lit (.int .u8 0)]]
/-- One of Go's own tables, pinned by name: the form's constant. -/
def laid_unicode_utf8_first : DataW Unit := Go.Pinned.utf8First

/-- 'seismonetlaw41.ArchiveOrder': WHATEVER THE INPUT: true; the input reads as it did. -/
def archiveOrderSpec : ChangeSpec := { name := "archiveOrder", fn := fun _ => fun
  | [d1, d2] => { results := [.lit (.bool true)], args := [d1, d2] }
  | _ => none }
def archiveOrderRow : OpenClaim := { program := "ytpfhhcjdknmbbaagreatdoor", sum := "b474505edc9b5cee1c0401e6ea3689c1c86aaeba7ec69719e47e5f5f1a9a459f", func := "seismonet/seismonetlaw41.ArchiveOrder", spec := "archiveOrder", inPlace := ["slices.overlaps[seismonet/api.Store]", "internal/bytealg.CountString", "internal/bytealg.IndexByteString", "internal/bytealg.IndexString"], unfollowed := true, recurses := true, named := ["unicode/utf8.first", "unicode/utf8.acceptRanges", "internal/bytealg.MaxLen"], plainKeys := false, apart := false, laid := [("unicode/utf8.acceptRanges", laid_unicode_utf8_acceptRanges), ("unicode/utf8.first", laid_unicode_utf8_first)] }
def ArchiveOrderSaid : Prop := archiveOrderRow.holds Tryz.pinned (OpenSpec.ofChange archiveOrderSpec)

/-- ITS FALSE NEIGHBOUR: 'it returns false'. Refute it at one input. -/
def archiveOrderWrong : ChangeSpec := { name := "archiveOrder", fn := fun _ => fun
  | [d1, d2] => { results := [.lit (.bool false)], args := [d1, d2] }
  | _ => none }
def ArchiveOrderWrongFalsely : Prop := archiveOrderRow.holds Tryz.pinned (OpenSpec.ofChange archiveOrderWrong)

/-- 'seismonetlaw41.ArchiveStores': WHATEVER THE INPUT: true; the input reads as it did. -/
def archiveStoresSpec : ChangeSpec := { name := "archiveStores", fn := fun _ => fun
  | [d1, d2, d3, d4] => { results := [.lit (.bool true)], args := [d1, d2, d3, d4] }
  | _ => none }
def archiveStoresRow : OpenClaim := { program := "ytpfhhcjdknmbbaagreatdoor", sum := "b474505edc9b5cee1c0401e6ea3689c1c86aaeba7ec69719e47e5f5f1a9a459f", func := "seismonet/seismonetlaw41.ArchiveStores", spec := "archiveStores", inPlace := ["slices.overlaps[seismonet/api.Store]", "internal/bytealg.CountString", "internal/bytealg.IndexByteString", "internal/bytealg.IndexString"], unfollowed := true, recurses := true, named := ["unicode/utf8.first", "unicode/utf8.acceptRanges", "internal/bytealg.MaxLen"], plainKeys := false, apart := false, laid := [("unicode/utf8.acceptRanges", laid_unicode_utf8_acceptRanges), ("unicode/utf8.first", laid_unicode_utf8_first)] }
def ArchiveStoresSaid : Prop := archiveStoresRow.holds Tryz.pinned (OpenSpec.ofChange archiveStoresSpec)

/-- ITS FALSE NEIGHBOUR: 'it returns false'. Refute it at one input. -/
def archiveStoresWrong : ChangeSpec := { name := "archiveStores", fn := fun _ => fun
  | [d1, d2, d3, d4] => { results := [.lit (.bool false)], args := [d1, d2, d3, d4] }
  | _ => none }
def ArchiveStoresWrongFalsely : Prop := archiveStoresRow.holds Tryz.pinned (OpenSpec.ofChange archiveStoresWrong)

/-- 'seismonetlaw41.ArchiveRequests': WHATEVER THE INPUT: true; the input reads as it did. -/
def archiveRequestsSpec : ChangeSpec := { name := "archiveRequests", fn := fun _ => fun
  | [d1, d2, d3, d4, d5, d6, d7] => { results := [.lit (.bool true)], args := [d1, d2, d3, d4, d5, d6, d7] }
  | _ => none }
def archiveRequestsRow : OpenClaim := { program := "ytpfhhcjdknmbbaagreatdoor", sum := "b474505edc9b5cee1c0401e6ea3689c1c86aaeba7ec69719e47e5f5f1a9a459f", func := "seismonet/seismonetlaw41.ArchiveRequests", spec := "archiveRequests", inPlace := ["slices.overlaps[seismonet/api.Store]", "internal/bytealg.CountString", "internal/bytealg.IndexByteString", "internal/bytealg.IndexString"], unfollowed := true, recurses := true, named := ["unicode/utf8.first", "unicode/utf8.acceptRanges", "internal/bytealg.MaxLen"], plainKeys := false, apart := false, laid := [("unicode/utf8.acceptRanges", laid_unicode_utf8_acceptRanges), ("unicode/utf8.first", laid_unicode_utf8_first)] }
def ArchiveRequestsSaid : Prop := archiveRequestsRow.holds Tryz.pinned (OpenSpec.ofChange archiveRequestsSpec)

/-- ITS FALSE NEIGHBOUR: 'it returns false'. Refute it at one input. -/
def archiveRequestsWrong : ChangeSpec := { name := "archiveRequests", fn := fun _ => fun
  | [d1, d2, d3, d4, d5, d6, d7] => { results := [.lit (.bool false)], args := [d1, d2, d3, d4, d5, d6, d7] }
  | _ => none }
def ArchiveRequestsWrongFalsely : Prop := archiveRequestsRow.holds Tryz.pinned (OpenSpec.ofChange archiveRequestsWrong)

/-- 'seismonetlaw41.ArchiveChannels': WHATEVER THE INPUT: true; the input reads as it did. -/
def archiveChannelsSpec : ChangeSpec := { name := "archiveChannels", fn := fun _ => fun
  | [d] => { results := [.lit (.bool true)], args := [d] }
  | _ => none }
def archiveChannelsRow : OpenClaim := { program := "ytpfhhcjdknmbbaagreatdoor", sum := "b474505edc9b5cee1c0401e6ea3689c1c86aaeba7ec69719e47e5f5f1a9a459f", func := "seismonet/seismonetlaw41.ArchiveChannels", spec := "archiveChannels", inPlace := ["slices.overlaps[seismonet/api.Store]", "internal/bytealg.CountString", "internal/bytealg.IndexByteString", "internal/bytealg.IndexString"], unfollowed := true, recurses := true, named := ["unicode/utf8.first", "unicode/utf8.acceptRanges", "internal/bytealg.MaxLen"], plainKeys := false, apart := false, laid := [("unicode/utf8.acceptRanges", laid_unicode_utf8_acceptRanges), ("unicode/utf8.first", laid_unicode_utf8_first)] }
def ArchiveChannelsSaid : Prop := archiveChannelsRow.holds Tryz.pinned (OpenSpec.ofChange archiveChannelsSpec)

/-- ITS FALSE NEIGHBOUR: 'it returns false'. Refute it at one input. -/
def archiveChannelsWrong : ChangeSpec := { name := "archiveChannels", fn := fun _ => fun
  | [d] => { results := [.lit (.bool false)], args := [d] }
  | _ => none }
def ArchiveChannelsWrongFalsely : Prop := archiveChannelsRow.holds Tryz.pinned (OpenSpec.ofChange archiveChannelsWrong)

/-- 'seismonetlaw41.ArchiveAnswers': WHATEVER THE INPUT: true; the input reads as it did. -/
def archiveAnswersSpec : ChangeSpec := { name := "archiveAnswers", fn := fun _ => fun
  | [d1, d2] => { results := [.lit (.bool true)], args := [d1, d2] }
  | _ => none }
def archiveAnswersRow : OpenClaim := { program := "ytpfhhcjdknmbbaagreatdoor", sum := "b474505edc9b5cee1c0401e6ea3689c1c86aaeba7ec69719e47e5f5f1a9a459f", func := "seismonet/seismonetlaw41.ArchiveAnswers", spec := "archiveAnswers", inPlace := ["internal/bytealg.CountString", "internal/bytealg.IndexByteString", "internal/bytealg.IndexString", "slices.overlaps[seismonet/api.Store]"], unfollowed := true, recurses := true, named := ["unicode/utf8.first", "unicode/utf8.acceptRanges", "internal/bytealg.MaxLen"], plainKeys := false, apart := false, laid := [("unicode/utf8.acceptRanges", laid_unicode_utf8_acceptRanges), ("unicode/utf8.first", laid_unicode_utf8_first)] }
def ArchiveAnswersSaid : Prop := archiveAnswersRow.holds Tryz.pinned (OpenSpec.ofChange archiveAnswersSpec)

/-- ITS FALSE NEIGHBOUR: 'it returns false'. Refute it at one input. -/
def archiveAnswersWrong : ChangeSpec := { name := "archiveAnswers", fn := fun _ => fun
  | [d1, d2] => { results := [.lit (.bool false)], args := [d1, d2] }
  | _ => none }
def ArchiveAnswersWrongFalsely : Prop := archiveAnswersRow.holds Tryz.pinned (OpenSpec.ofChange archiveAnswersWrong)

/-- 'seismonetlaw41.ArchiveSplits': WHATEVER THE INPUT: true; the input reads as it did. -/
def archiveSplitsSpec : ChangeSpec := { name := "archiveSplits", fn := fun _ => fun
  | [d] => { results := [.lit (.bool true)], args := [d] }
  | _ => none }
def archiveSplitsRow : OpenClaim := { program := "ytpfhhcjdknmbbaagreatdoor", sum := "b474505edc9b5cee1c0401e6ea3689c1c86aaeba7ec69719e47e5f5f1a9a459f", func := "seismonet/seismonetlaw41.ArchiveSplits", spec := "archiveSplits", inPlace := ["slices.overlaps[seismonet/api.Store]", "internal/bytealg.CountString", "internal/bytealg.IndexByteString", "internal/bytealg.IndexString"], unfollowed := true, recurses := true, named := ["unicode/utf8.first", "unicode/utf8.acceptRanges", "internal/bytealg.MaxLen"], plainKeys := false, apart := false, laid := [("unicode/utf8.acceptRanges", laid_unicode_utf8_acceptRanges), ("unicode/utf8.first", laid_unicode_utf8_first)] }
def ArchiveSplitsSaid : Prop := archiveSplitsRow.holds Tryz.pinned (OpenSpec.ofChange archiveSplitsSpec)

/-- ITS FALSE NEIGHBOUR: 'it returns false'. Refute it at one input. -/
def archiveSplitsWrong : ChangeSpec := { name := "archiveSplits", fn := fun _ => fun
  | [d] => { results := [.lit (.bool false)], args := [d] }
  | _ => none }
def ArchiveSplitsWrongFalsely : Prop := archiveSplitsRow.holds Tryz.pinned (OpenSpec.ofChange archiveSplitsWrong)

/- THE SECOND FORM. 'bulk': how many values and letters a reading holds, each counted each time it is reached (what is shared counts as often as it is met; a slice's spare places count too). A statement '..UptoSaid' is the law's where the arguments, and the package variables that the reading takes, are together of bulk at most 1048576: NARROWER than '..Said'. Prove '..Said' where nothing that the law and all that it calls make is longer than what came in: it says more and counts as full. Else prove '..UptoSaid'. A law counts once. -/
mutual
def uptoBulk {H : Type} : DataW H → Nat
  | .lit (.string bytes) => bytes.length + 1
  | .lit _ => 1
  | .nil => 1
  | .ptr d => uptoBulk d + 1
  | .slice elems spare => uptoBulkAll elems + uptoBulkAll spare + 1
  | .agg parts => uptoBulkAll parts + 1
  | .iface _ d => uptoBulk d + 1
  | .map entries => uptoBulkEntries entries + 1
  | .held _ => 1
def uptoBulkAll {H : Type} : List (DataW H) → Nat
  | [] => 0
  | d :: r => uptoBulk d + uptoBulkAll r
def uptoBulkEntries {H : Type} : List (Lit × DataW H) → Nat
  | [] => 0
  | x :: r => uptoBulkEntry x + uptoBulkEntries r
def uptoBulkEntry {H : Type} : Lit × DataW H → Nat
  | (.string bytes, d) => bytes.length + uptoBulk d + 1
  | (_, d) => uptoBulk d + 1
 end
def uptoSmall : (H : Type) → List (DataW H) → Bool := fun _ ds => decide (uptoBulkAll ds ≤ 1048576)
def OpenSpec.upto (s : _root_.Go.ChangeSpec) : _root_.Go.OpenSpec := { _root_.Go.OpenSpec.ofChange s with cond := some uptoSmall }

/-- 'seismonetlaw41.ArchiveOrder', WHERE WHAT IT READS IS OF BULK AT MOST 1048576: true; the input reads as it did. -/
def archiveOrderUptoRow : OpenClaim := { program := "ytpfhhcjdknmbbaagreatdoor", sum := "b474505edc9b5cee1c0401e6ea3689c1c86aaeba7ec69719e47e5f5f1a9a459f", func := "seismonet/seismonetlaw41.ArchiveOrder", spec := "archiveOrder", inPlace := ["slices.overlaps[seismonet/api.Store]", "internal/bytealg.CountString", "internal/bytealg.IndexByteString", "internal/bytealg.IndexString"], unfollowed := true, recurses := true, named := ["unicode/utf8.first", "unicode/utf8.acceptRanges", "internal/bytealg.MaxLen"], plainKeys := false, apart := false, laid := [("unicode/utf8.acceptRanges", laid_unicode_utf8_acceptRanges), ("unicode/utf8.first", laid_unicode_utf8_first)], narrowed := true }
def ArchiveOrderUptoSaid : Prop := archiveOrderUptoRow.holds Tryz.pinned (OpenSpec.upto archiveOrderSpec)

/-- 'seismonetlaw41.ArchiveStores', WHERE WHAT IT READS IS OF BULK AT MOST 1048576: true; the input reads as it did. -/
def archiveStoresUptoRow : OpenClaim := { program := "ytpfhhcjdknmbbaagreatdoor", sum := "b474505edc9b5cee1c0401e6ea3689c1c86aaeba7ec69719e47e5f5f1a9a459f", func := "seismonet/seismonetlaw41.ArchiveStores", spec := "archiveStores", inPlace := ["slices.overlaps[seismonet/api.Store]", "internal/bytealg.CountString", "internal/bytealg.IndexByteString", "internal/bytealg.IndexString"], unfollowed := true, recurses := true, named := ["unicode/utf8.first", "unicode/utf8.acceptRanges", "internal/bytealg.MaxLen"], plainKeys := false, apart := false, laid := [("unicode/utf8.acceptRanges", laid_unicode_utf8_acceptRanges), ("unicode/utf8.first", laid_unicode_utf8_first)], narrowed := true }
def ArchiveStoresUptoSaid : Prop := archiveStoresUptoRow.holds Tryz.pinned (OpenSpec.upto archiveStoresSpec)

/-- 'seismonetlaw41.ArchiveRequests', WHERE WHAT IT READS IS OF BULK AT MOST 1048576: true; the input reads as it did. -/
def archiveRequestsUptoRow : OpenClaim := { program := "ytpfhhcjdknmbbaagreatdoor", sum := "b474505edc9b5cee1c0401e6ea3689c1c86aaeba7ec69719e47e5f5f1a9a459f", func := "seismonet/seismonetlaw41.ArchiveRequests", spec := "archiveRequests", inPlace := ["slices.overlaps[seismonet/api.Store]", "internal/bytealg.CountString", "internal/bytealg.IndexByteString", "internal/bytealg.IndexString"], unfollowed := true, recurses := true, named := ["unicode/utf8.first", "unicode/utf8.acceptRanges", "internal/bytealg.MaxLen"], plainKeys := false, apart := false, laid := [("unicode/utf8.acceptRanges", laid_unicode_utf8_acceptRanges), ("unicode/utf8.first", laid_unicode_utf8_first)], narrowed := true }
def ArchiveRequestsUptoSaid : Prop := archiveRequestsUptoRow.holds Tryz.pinned (OpenSpec.upto archiveRequestsSpec)

/-- 'seismonetlaw41.ArchiveChannels', WHERE WHAT IT READS IS OF BULK AT MOST 1048576: true; the input reads as it did. -/
def archiveChannelsUptoRow : OpenClaim := { program := "ytpfhhcjdknmbbaagreatdoor", sum := "b474505edc9b5cee1c0401e6ea3689c1c86aaeba7ec69719e47e5f5f1a9a459f", func := "seismonet/seismonetlaw41.ArchiveChannels", spec := "archiveChannels", inPlace := ["slices.overlaps[seismonet/api.Store]", "internal/bytealg.CountString", "internal/bytealg.IndexByteString", "internal/bytealg.IndexString"], unfollowed := true, recurses := true, named := ["unicode/utf8.first", "unicode/utf8.acceptRanges", "internal/bytealg.MaxLen"], plainKeys := false, apart := false, laid := [("unicode/utf8.acceptRanges", laid_unicode_utf8_acceptRanges), ("unicode/utf8.first", laid_unicode_utf8_first)], narrowed := true }
def ArchiveChannelsUptoSaid : Prop := archiveChannelsUptoRow.holds Tryz.pinned (OpenSpec.upto archiveChannelsSpec)

/-- 'seismonetlaw41.ArchiveAnswers', WHERE WHAT IT READS IS OF BULK AT MOST 1048576: true; the input reads as it did. -/
def archiveAnswersUptoRow : OpenClaim := { program := "ytpfhhcjdknmbbaagreatdoor", sum := "b474505edc9b5cee1c0401e6ea3689c1c86aaeba7ec69719e47e5f5f1a9a459f", func := "seismonet/seismonetlaw41.ArchiveAnswers", spec := "archiveAnswers", inPlace := ["internal/bytealg.CountString", "internal/bytealg.IndexByteString", "internal/bytealg.IndexString", "slices.overlaps[seismonet/api.Store]"], unfollowed := true, recurses := true, named := ["unicode/utf8.first", "unicode/utf8.acceptRanges", "internal/bytealg.MaxLen"], plainKeys := false, apart := false, laid := [("unicode/utf8.acceptRanges", laid_unicode_utf8_acceptRanges), ("unicode/utf8.first", laid_unicode_utf8_first)], narrowed := true }
def ArchiveAnswersUptoSaid : Prop := archiveAnswersUptoRow.holds Tryz.pinned (OpenSpec.upto archiveAnswersSpec)

/-- 'seismonetlaw41.ArchiveSplits', WHERE WHAT IT READS IS OF BULK AT MOST 1048576: true; the input reads as it did. -/
def archiveSplitsUptoRow : OpenClaim := { program := "ytpfhhcjdknmbbaagreatdoor", sum := "b474505edc9b5cee1c0401e6ea3689c1c86aaeba7ec69719e47e5f5f1a9a459f", func := "seismonet/seismonetlaw41.ArchiveSplits", spec := "archiveSplits", inPlace := ["slices.overlaps[seismonet/api.Store]", "internal/bytealg.CountString", "internal/bytealg.IndexByteString", "internal/bytealg.IndexString"], unfollowed := true, recurses := true, named := ["unicode/utf8.first", "unicode/utf8.acceptRanges", "internal/bytealg.MaxLen"], plainKeys := false, apart := false, laid := [("unicode/utf8.acceptRanges", laid_unicode_utf8_acceptRanges), ("unicode/utf8.first", laid_unicode_utf8_first)], narrowed := true }
def ArchiveSplitsUptoSaid : Prop := archiveSplitsUptoRow.holds Tryz.pinned (OpenSpec.upto archiveSplitsSpec)

end Rows
end Go.Proofs.YtpfhhcjdknmbbaaGreatDoor
