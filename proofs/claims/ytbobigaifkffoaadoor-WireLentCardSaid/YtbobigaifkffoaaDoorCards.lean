/-
  DERIVED. GIVEN WITH THE SEED: THE CARDS: each row of YtbobigaifkffoaaDoorRows.lean that lists a variable, with what it lists TIED to the program's text (the seventh form; the later family's looks); each row that meets fmt, with fmt's text TOLD by the authors' own Lean function (tested against real Go, not proved from fmt's source: count such statements apart). THE CARD IS WHAT COUNTS. Prove the row's statement (the work); the ties are given (YtbobigaifkffoaaDoorTie.lean); close each card by the builder's one call (the guide's Derived/Test/ToyasCard.lean, 'card_holds'). Laid BY PROGRAM, IN A SANDBOX (cutbox-door.mjs). By AI agents, Wed Nov 11 2026. No macro, syntax, notation, axiom, sorry.
-/
import Derived.Test.YtbobigaifkffoaaDoorRows
import GoSem.ClaimSeven
namespace Go.Proofs.YtbobigaifkffoaaDoor
namespace Rows

/-- THE TIED CARD OF 'annalslaw1.WireLaid'. -/
def wireLaidCard : Claim7 := { stood := { row := wireLaidRow, standIns := [], harness := (true, "8b7a13cd992c3f5d4b3e5b6e1a0fa2a19718f8f0546806e822fdc598a2423f4d"), looks := false }, kinds := [], alts := [], laidByText := true, laidKinds := [.data], laidTests := true, laidLooks := .later }
def WireLaidCardSaid : Prop := Claim7.holds Tryd.pinned (.plain (OpenSpec.ofChange wireLaidSpec)) wireLaidCard

/-- THE TIED CARD OF 'annalslaw1.WireTorn'. -/
def wireTornCard : Claim7 := { stood := { row := wireTornRow, standIns := [], harness := (true, "8b7a13cd992c3f5d4b3e5b6e1a0fa2a19718f8f0546806e822fdc598a2423f4d"), looks := false }, kinds := [], alts := [], laidByText := true, laidKinds := [.data], laidTests := true, laidLooks := .later }
def WireTornCardSaid : Prop := Claim7.holds Tryd.pinned (.plain (OpenSpec.ofChange wireTornSpec)) wireTornCard

/-- THE TIED CARD OF 'annalslaw1.WireBurst'. -/
def wireBurstCard : Claim7 := { stood := { row := wireBurstRow, standIns := [], harness := (true, "8b7a13cd992c3f5d4b3e5b6e1a0fa2a19718f8f0546806e822fdc598a2423f4d"), looks := false }, kinds := [], alts := [], laidByText := true, laidKinds := [.data], laidTests := true, laidLooks := .later }
def WireBurstCardSaid : Prop := Claim7.holds Tryd.pinned (.plain (OpenSpec.ofChange wireBurstSpec)) wireBurstCard

/-- THE TIED CARD OF 'annalslaw1.WireStream'. -/
def wireStreamCard : Claim7 := { stood := { row := wireStreamRow, standIns := [], harness := (true, "8b7a13cd992c3f5d4b3e5b6e1a0fa2a19718f8f0546806e822fdc598a2423f4d"), looks := false }, kinds := [], alts := [], laidByText := true, laidKinds := [.data], laidTests := true, laidLooks := .later }
def WireStreamCardSaid : Prop := Claim7.holds Tryd.pinned (.plain (OpenSpec.ofChange wireStreamSpec)) wireStreamCard

/-- THE TIED CARD OF 'annalslaw1.WireLent'. -/
def wireLentCard : Claim7 := { stood := { row := wireLentRow, standIns := [], harness := (true, "8b7a13cd992c3f5d4b3e5b6e1a0fa2a19718f8f0546806e822fdc598a2423f4d"), looks := false }, kinds := [], alts := [], laidByText := true, laidKinds := [.data], laidTests := true, laidLooks := .later }
def WireLentCardSaid : Prop := Claim7.holds Tryd.pinned (.plain (OpenSpec.ofChange wireLentSpec)) wireLentCard

/-- THE TIED CARD OF 'annalslaw1.WireBack'. -/
def wireBackCard : Claim7 := { stood := { row := wireBackRow, standIns := [], harness := (true, "8b7a13cd992c3f5d4b3e5b6e1a0fa2a19718f8f0546806e822fdc598a2423f4d"), looks := false }, kinds := [], alts := [], laidByText := true, laidKinds := [.data], laidTests := true, laidLooks := .later }
def WireBackCardSaid : Prop := Claim7.holds Tryd.pinned (.plain (OpenSpec.ofChange wireBackSpec)) wireBackCard

/-- THE TIED CARD OF 'annalslaw1.WireOneWay'. -/
def wireOneWayCard : Claim7 := { stood := { row := wireOneWayRow, standIns := [], harness := (true, "8b7a13cd992c3f5d4b3e5b6e1a0fa2a19718f8f0546806e822fdc598a2423f4d"), looks := false }, kinds := [], alts := [], laidByText := true, laidKinds := [.data], laidTests := true, laidLooks := .later }
def WireOneWayCardSaid : Prop := Claim7.holds Tryd.pinned (.plain (OpenSpec.ofChange wireOneWaySpec)) wireOneWayCard

/-- THE TIED CARD OF 'annalslaw1.WireOwn'. -/
def wireOwnCard : Claim7 := { stood := { row := wireOwnRow, standIns := [], harness := (true, "8b7a13cd992c3f5d4b3e5b6e1a0fa2a19718f8f0546806e822fdc598a2423f4d"), looks := false }, kinds := [], alts := [], laidByText := true, laidKinds := [.data], laidTests := true, laidLooks := .later }
def WireOwnCardSaid : Prop := Claim7.holds Tryd.pinned (.plain (OpenSpec.ofChange wireOwnSpec)) wireOwnCard

/-- THE TIED CARD OF 'annalslaw1.WireNumbers'. -/
def wireNumbersCard : Claim7 := { stood := { row := wireNumbersRow, standIns := [], harness := (true, "8b7a13cd992c3f5d4b3e5b6e1a0fa2a19718f8f0546806e822fdc598a2423f4d"), looks := false }, kinds := [], alts := [], laidByText := true, laidKinds := [.data], laidTests := true, laidLooks := .later }
def WireNumbersCardSaid : Prop := Claim7.holds Tryd.pinned (.plain (OpenSpec.ofChange wireNumbersSpec)) wireNumbersCard

/-- THE TIED CARD OF 'annalslaw1.WireStrings'. -/
def wireStringsCard : Claim7 := { stood := { row := wireStringsRow, standIns := [], harness := (true, "8b7a13cd992c3f5d4b3e5b6e1a0fa2a19718f8f0546806e822fdc598a2423f4d"), looks := false }, kinds := [], alts := [], laidByText := true, laidKinds := [.data], laidTests := true, laidLooks := .later }
def WireStringsCardSaid : Prop := Claim7.holds Tryd.pinned (.plain (OpenSpec.ofChange wireStringsSpec)) wireStringsCard

/-- THE TIED CARD OF 'annalslaw1.WireSums'. -/
def wireSumsCard : Claim7 := { stood := { row := wireSumsRow, standIns := [], harness := (true, "8b7a13cd992c3f5d4b3e5b6e1a0fa2a19718f8f0546806e822fdc598a2423f4d"), looks := false }, kinds := [], alts := [], laidByText := true, laidKinds := [.data], laidTests := true, laidLooks := .later }
def WireSumsCardSaid : Prop := Claim7.holds Tryd.pinned (.plain (OpenSpec.ofChange wireSumsSpec)) wireSumsCard

/-- THE TIED CARD OF 'annalslaw1.WireFrames'. -/
def wireFramesCard : Claim7 := { stood := { row := wireFramesRow, standIns := [], harness := (true, "8b7a13cd992c3f5d4b3e5b6e1a0fa2a19718f8f0546806e822fdc598a2423f4d"), looks := false }, kinds := [], alts := [], laidByText := true, laidKinds := [.data], laidTests := true, laidLooks := .later }
def WireFramesCardSaid : Prop := Claim7.holds Tryd.pinned (.plain (OpenSpec.ofChange wireFramesSpec)) wireFramesCard

/-- THE TIED CARD OF 'annalslaw1.WireRuns'. -/
def wireRunsCard : Claim7 := { stood := { row := wireRunsRow, standIns := [], harness := (true, "8b7a13cd992c3f5d4b3e5b6e1a0fa2a19718f8f0546806e822fdc598a2423f4d"), looks := false }, kinds := [], alts := [], laidByText := true, laidKinds := [.data], laidTests := true, laidLooks := .later }
def WireRunsCardSaid : Prop := Claim7.holds Tryd.pinned (.plain (OpenSpec.ofChange wireRunsSpec)) wireRunsCard

/-- THE TIED CARD OF 'annalslaw1.WirePlays'. -/
def wirePlaysCard : Claim7 := { stood := { row := wirePlaysRow, standIns := [], harness := (true, "8b7a13cd992c3f5d4b3e5b6e1a0fa2a19718f8f0546806e822fdc598a2423f4d"), looks := false }, kinds := [], alts := [], laidByText := true, laidKinds := [.data], laidTests := true, laidLooks := .later }
def WirePlaysCardSaid : Prop := Claim7.holds Tryd.pinned (.plain (OpenSpec.ofChange wirePlaysSpec)) wirePlaysCard

/-- THE TIED CARD OF 'annalslaw1.WireAgain'. -/
def wireAgainCard : Claim7 := { stood := { row := wireAgainRow, standIns := [], harness := (true, "8b7a13cd992c3f5d4b3e5b6e1a0fa2a19718f8f0546806e822fdc598a2423f4d"), looks := false }, kinds := [], alts := [], laidByText := true, laidKinds := [.data], laidTests := true, laidLooks := .later }
def WireAgainCardSaid : Prop := Claim7.holds Tryd.pinned (.plain (OpenSpec.ofChange wireAgainSpec)) wireAgainCard

/-- THE SECOND FORM's CARD OF 'annalslaw1.WireLaid'. -/
def wireLaidUptoCard : Claim7 := { stood := { row := wireLaidUptoRow, standIns := [], harness := (true, "8b7a13cd992c3f5d4b3e5b6e1a0fa2a19718f8f0546806e822fdc598a2423f4d"), looks := false }, kinds := [], alts := [], laidByText := true, laidKinds := [.data], laidTests := true, laidLooks := .later }
def WireLaidUptoCardSaid : Prop := Claim7.holds Tryd.pinned (.plain (OpenSpec.upto wireLaidSpec)) wireLaidUptoCard

/-- THE SECOND FORM's CARD OF 'annalslaw1.WireTorn'. -/
def wireTornUptoCard : Claim7 := { stood := { row := wireTornUptoRow, standIns := [], harness := (true, "8b7a13cd992c3f5d4b3e5b6e1a0fa2a19718f8f0546806e822fdc598a2423f4d"), looks := false }, kinds := [], alts := [], laidByText := true, laidKinds := [.data], laidTests := true, laidLooks := .later }
def WireTornUptoCardSaid : Prop := Claim7.holds Tryd.pinned (.plain (OpenSpec.upto wireTornSpec)) wireTornUptoCard

/-- THE SECOND FORM's CARD OF 'annalslaw1.WireBurst'. -/
def wireBurstUptoCard : Claim7 := { stood := { row := wireBurstUptoRow, standIns := [], harness := (true, "8b7a13cd992c3f5d4b3e5b6e1a0fa2a19718f8f0546806e822fdc598a2423f4d"), looks := false }, kinds := [], alts := [], laidByText := true, laidKinds := [.data], laidTests := true, laidLooks := .later }
def WireBurstUptoCardSaid : Prop := Claim7.holds Tryd.pinned (.plain (OpenSpec.upto wireBurstSpec)) wireBurstUptoCard

/-- THE SECOND FORM's CARD OF 'annalslaw1.WireStream'. -/
def wireStreamUptoCard : Claim7 := { stood := { row := wireStreamUptoRow, standIns := [], harness := (true, "8b7a13cd992c3f5d4b3e5b6e1a0fa2a19718f8f0546806e822fdc598a2423f4d"), looks := false }, kinds := [], alts := [], laidByText := true, laidKinds := [.data], laidTests := true, laidLooks := .later }
def WireStreamUptoCardSaid : Prop := Claim7.holds Tryd.pinned (.plain (OpenSpec.upto wireStreamSpec)) wireStreamUptoCard

/-- THE SECOND FORM's CARD OF 'annalslaw1.WireLent'. -/
def wireLentUptoCard : Claim7 := { stood := { row := wireLentUptoRow, standIns := [], harness := (true, "8b7a13cd992c3f5d4b3e5b6e1a0fa2a19718f8f0546806e822fdc598a2423f4d"), looks := false }, kinds := [], alts := [], laidByText := true, laidKinds := [.data], laidTests := true, laidLooks := .later }
def WireLentUptoCardSaid : Prop := Claim7.holds Tryd.pinned (.plain (OpenSpec.upto wireLentSpec)) wireLentUptoCard

/-- THE SECOND FORM's CARD OF 'annalslaw1.WireBack'. -/
def wireBackUptoCard : Claim7 := { stood := { row := wireBackUptoRow, standIns := [], harness := (true, "8b7a13cd992c3f5d4b3e5b6e1a0fa2a19718f8f0546806e822fdc598a2423f4d"), looks := false }, kinds := [], alts := [], laidByText := true, laidKinds := [.data], laidTests := true, laidLooks := .later }
def WireBackUptoCardSaid : Prop := Claim7.holds Tryd.pinned (.plain (OpenSpec.upto wireBackSpec)) wireBackUptoCard

/-- THE SECOND FORM's CARD OF 'annalslaw1.WireOneWay'. -/
def wireOneWayUptoCard : Claim7 := { stood := { row := wireOneWayUptoRow, standIns := [], harness := (true, "8b7a13cd992c3f5d4b3e5b6e1a0fa2a19718f8f0546806e822fdc598a2423f4d"), looks := false }, kinds := [], alts := [], laidByText := true, laidKinds := [.data], laidTests := true, laidLooks := .later }
def WireOneWayUptoCardSaid : Prop := Claim7.holds Tryd.pinned (.plain (OpenSpec.upto wireOneWaySpec)) wireOneWayUptoCard

/-- THE SECOND FORM's CARD OF 'annalslaw1.WireOwn'. -/
def wireOwnUptoCard : Claim7 := { stood := { row := wireOwnUptoRow, standIns := [], harness := (true, "8b7a13cd992c3f5d4b3e5b6e1a0fa2a19718f8f0546806e822fdc598a2423f4d"), looks := false }, kinds := [], alts := [], laidByText := true, laidKinds := [.data], laidTests := true, laidLooks := .later }
def WireOwnUptoCardSaid : Prop := Claim7.holds Tryd.pinned (.plain (OpenSpec.upto wireOwnSpec)) wireOwnUptoCard

/-- THE SECOND FORM's CARD OF 'annalslaw1.WireNumbers'. -/
def wireNumbersUptoCard : Claim7 := { stood := { row := wireNumbersUptoRow, standIns := [], harness := (true, "8b7a13cd992c3f5d4b3e5b6e1a0fa2a19718f8f0546806e822fdc598a2423f4d"), looks := false }, kinds := [], alts := [], laidByText := true, laidKinds := [.data], laidTests := true, laidLooks := .later }
def WireNumbersUptoCardSaid : Prop := Claim7.holds Tryd.pinned (.plain (OpenSpec.upto wireNumbersSpec)) wireNumbersUptoCard

/-- THE SECOND FORM's CARD OF 'annalslaw1.WireStrings'. -/
def wireStringsUptoCard : Claim7 := { stood := { row := wireStringsUptoRow, standIns := [], harness := (true, "8b7a13cd992c3f5d4b3e5b6e1a0fa2a19718f8f0546806e822fdc598a2423f4d"), looks := false }, kinds := [], alts := [], laidByText := true, laidKinds := [.data], laidTests := true, laidLooks := .later }
def WireStringsUptoCardSaid : Prop := Claim7.holds Tryd.pinned (.plain (OpenSpec.upto wireStringsSpec)) wireStringsUptoCard

/-- THE SECOND FORM's CARD OF 'annalslaw1.WireSums'. -/
def wireSumsUptoCard : Claim7 := { stood := { row := wireSumsUptoRow, standIns := [], harness := (true, "8b7a13cd992c3f5d4b3e5b6e1a0fa2a19718f8f0546806e822fdc598a2423f4d"), looks := false }, kinds := [], alts := [], laidByText := true, laidKinds := [.data], laidTests := true, laidLooks := .later }
def WireSumsUptoCardSaid : Prop := Claim7.holds Tryd.pinned (.plain (OpenSpec.upto wireSumsSpec)) wireSumsUptoCard

/-- THE SECOND FORM's CARD OF 'annalslaw1.WireFrames'. -/
def wireFramesUptoCard : Claim7 := { stood := { row := wireFramesUptoRow, standIns := [], harness := (true, "8b7a13cd992c3f5d4b3e5b6e1a0fa2a19718f8f0546806e822fdc598a2423f4d"), looks := false }, kinds := [], alts := [], laidByText := true, laidKinds := [.data], laidTests := true, laidLooks := .later }
def WireFramesUptoCardSaid : Prop := Claim7.holds Tryd.pinned (.plain (OpenSpec.upto wireFramesSpec)) wireFramesUptoCard

/-- THE SECOND FORM's CARD OF 'annalslaw1.WireRuns'. -/
def wireRunsUptoCard : Claim7 := { stood := { row := wireRunsUptoRow, standIns := [], harness := (true, "8b7a13cd992c3f5d4b3e5b6e1a0fa2a19718f8f0546806e822fdc598a2423f4d"), looks := false }, kinds := [], alts := [], laidByText := true, laidKinds := [.data], laidTests := true, laidLooks := .later }
def WireRunsUptoCardSaid : Prop := Claim7.holds Tryd.pinned (.plain (OpenSpec.upto wireRunsSpec)) wireRunsUptoCard

/-- THE SECOND FORM's CARD OF 'annalslaw1.WirePlays'. -/
def wirePlaysUptoCard : Claim7 := { stood := { row := wirePlaysUptoRow, standIns := [], harness := (true, "8b7a13cd992c3f5d4b3e5b6e1a0fa2a19718f8f0546806e822fdc598a2423f4d"), looks := false }, kinds := [], alts := [], laidByText := true, laidKinds := [.data], laidTests := true, laidLooks := .later }
def WirePlaysUptoCardSaid : Prop := Claim7.holds Tryd.pinned (.plain (OpenSpec.upto wirePlaysSpec)) wirePlaysUptoCard

/-- THE SECOND FORM's CARD OF 'annalslaw1.WireAgain'. -/
def wireAgainUptoCard : Claim7 := { stood := { row := wireAgainUptoRow, standIns := [], harness := (true, "8b7a13cd992c3f5d4b3e5b6e1a0fa2a19718f8f0546806e822fdc598a2423f4d"), looks := false }, kinds := [], alts := [], laidByText := true, laidKinds := [.data], laidTests := true, laidLooks := .later }
def WireAgainUptoCardSaid : Prop := Claim7.holds Tryd.pinned (.plain (OpenSpec.upto wireAgainSpec)) wireAgainUptoCard
end Rows
end Go.Proofs.YtbobigaifkffoaaDoor
