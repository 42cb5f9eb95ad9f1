/-
  NARROWER THAN 'FOR EVERY INPUT', by the rows' own cells (each row's printed sentence says how): WireLaid: laid · WireTorn: laid · WireBurst: laid · WireStream: laid · WireLent: laid · WireBack: laid · WireOneWay: laid · WireOwn: laid · WireNumbers: laid · WireStrings: laid · WireSums: laid · WireFrames: laid · WireRuns: laid · WirePlays: laid · WireAgain: laid.
  DERIVED. THE GIVEN ROWS OF THIS SEAT. 15 by the template 'for every input the law returns true; each argument reads behind the call as it read before'; 0 by the template 'total and deterministic' (their statements: YtbobigaifkffoaaDoorTotals.lean).
  GIVEN WITH THE SEED: the statements are not yours to turn. If you find one false, say at which input.
  Laid BY PROGRAM, IN A SANDBOX (cutbox-rows.mjs): the forced cells as the released guide's own fill.sh prints them over the translation 5264c7301c66a1c1… (all of the seat's roots in one cut). By AI agents, Wed Nov 11 2026. No macro, syntax, notation, axiom, sorry.
-/
import Derived.Test.YtbobigaifkffoaaDoorChecked
import GoSem.Claim
import GoSem.ClaimJoined
import GoSem.ClaimMapViews
import Derived.JoinedTies
import Derived.KernelRfl
namespace Go.Proofs.YtbobigaifkffoaaDoor
/- THE CELL 'sum', in the pinned program and in every row, IS THE sha256 OF THE DUMP (.gsa) THAT YtbobigaifkffoaaDoorProg.lean LOADS. Nothing in Lean hashes anything: it is a label: what it is worth is what the hold of that sum in a sandbox is worth. -/
noncomputable def Tryd.pinned : Pinned := { name := "ytbobigaifkffoaadoor", sum := "5264c7301c66a1c17b1062e55f8cb1bf249c37e89621156513eeb46c1d3fdcdb", checked := Tryd.checked }
namespace Rows
def none {H : Type} : Left H := { results := [], args := [] }

/- WHAT THE LISTED PACKAGE-LEVEL VARIABLES READ AS WHEN THE CALL BEGINS. Each datum BY PROGRAM (the guide's laid-datum.mjs) off the statement by which the dump's own 'gosem.cut.vars' lays the variable. In a bare row this is a premise. The card (YtbobigaifkffoaaDoorCards.lean) ties it to the program's text. -/
def laid_annals_wire_table {H : Type} : DataW H := .agg [.lit (.int .u32 0), .lit (.int .u32 498536548), .lit (.int .u32 997073096), .lit (.int .u32 651767980), .lit (.int .u32 1994146192), .lit (.int .u32 1802195444), .lit (.int .u32 1303535960), .lit (.int .u32 1342533948), .lit (.int .u32 3988292384), .lit (.int .u32 4027552580), .lit (.int .u32 3604390888), .lit (.int .u32 3412177804), .lit (.int .u32 2607071920), .lit (.int .u32 2262029012), .lit (.int .u32 2685067896), .lit (.int .u32 3183342108)]

/-- 'annalslaw1.WireLaid': WHATEVER THE INPUT: true; the input reads as it did. -/
def wireLaidSpec : ChangeSpec := { name := "wireLaid", fn := fun _ => fun
  | [d1, d2, d3] => { results := [.lit (.bool true)], args := [d1, d2, d3] }
  | _ => none }
def wireLaidRow : OpenClaim := { program := "ytbobigaifkffoaadoor", sum := "5264c7301c66a1c17b1062e55f8cb1bf249c37e89621156513eeb46c1d3fdcdb", func := "annals/annalslaw1.WireLaid", spec := "wireLaid", named := ["annals/wire.table"], apart := false, laid := [("annals/wire.table", laid_annals_wire_table)] }
def WireLaidSaid : Prop := wireLaidRow.holds Tryd.pinned (OpenSpec.ofChange wireLaidSpec)

/-- ITS FALSE NEIGHBOUR: 'it returns false'. Refute it at one input. -/
def wireLaidWrong : ChangeSpec := { name := "wireLaid", fn := fun _ => fun
  | [d1, d2, d3] => { results := [.lit (.bool false)], args := [d1, d2, d3] }
  | _ => none }
def WireLaidWrongFalsely : Prop := wireLaidRow.holds Tryd.pinned (OpenSpec.ofChange wireLaidWrong)

/-- 'annalslaw1.WireTorn': WHATEVER THE INPUT: true; the input reads as it did. -/
def wireTornSpec : ChangeSpec := { name := "wireTorn", fn := fun _ => fun
  | [d1, d2, d3] => { results := [.lit (.bool true)], args := [d1, d2, d3] }
  | _ => none }
def wireTornRow : OpenClaim := { program := "ytbobigaifkffoaadoor", sum := "5264c7301c66a1c17b1062e55f8cb1bf249c37e89621156513eeb46c1d3fdcdb", func := "annals/annalslaw1.WireTorn", spec := "wireTorn", named := ["annals/wire.table"], apart := false, laid := [("annals/wire.table", laid_annals_wire_table)] }
def WireTornSaid : Prop := wireTornRow.holds Tryd.pinned (OpenSpec.ofChange wireTornSpec)

/-- ITS FALSE NEIGHBOUR: 'it returns false'. Refute it at one input. -/
def wireTornWrong : ChangeSpec := { name := "wireTorn", fn := fun _ => fun
  | [d1, d2, d3] => { results := [.lit (.bool false)], args := [d1, d2, d3] }
  | _ => none }
def WireTornWrongFalsely : Prop := wireTornRow.holds Tryd.pinned (OpenSpec.ofChange wireTornWrong)

/-- 'annalslaw1.WireBurst': WHATEVER THE INPUT: true; the input reads as it did. -/
def wireBurstSpec : ChangeSpec := { name := "wireBurst", fn := fun _ => fun
  | [d1, d2, d3] => { results := [.lit (.bool true)], args := [d1, d2, d3] }
  | _ => none }
def wireBurstRow : OpenClaim := { program := "ytbobigaifkffoaadoor", sum := "5264c7301c66a1c17b1062e55f8cb1bf249c37e89621156513eeb46c1d3fdcdb", func := "annals/annalslaw1.WireBurst", spec := "wireBurst", named := ["annals/wire.table"], apart := false, laid := [("annals/wire.table", laid_annals_wire_table)] }
def WireBurstSaid : Prop := wireBurstRow.holds Tryd.pinned (OpenSpec.ofChange wireBurstSpec)

/-- ITS FALSE NEIGHBOUR: 'it returns false'. Refute it at one input. -/
def wireBurstWrong : ChangeSpec := { name := "wireBurst", fn := fun _ => fun
  | [d1, d2, d3] => { results := [.lit (.bool false)], args := [d1, d2, d3] }
  | _ => none }
def WireBurstWrongFalsely : Prop := wireBurstRow.holds Tryd.pinned (OpenSpec.ofChange wireBurstWrong)

/-- 'annalslaw1.WireStream': WHATEVER THE INPUT: true; the input reads as it did. -/
def wireStreamSpec : ChangeSpec := { name := "wireStream", fn := fun _ => fun
  | [d1, d2, d3, d4, d5] => { results := [.lit (.bool true)], args := [d1, d2, d3, d4, d5] }
  | _ => none }
def wireStreamRow : OpenClaim := { program := "ytbobigaifkffoaadoor", sum := "5264c7301c66a1c17b1062e55f8cb1bf249c37e89621156513eeb46c1d3fdcdb", func := "annals/annalslaw1.WireStream", spec := "wireStream", named := ["annals/wire.table"], apart := false, laid := [("annals/wire.table", laid_annals_wire_table)] }
def WireStreamSaid : Prop := wireStreamRow.holds Tryd.pinned (OpenSpec.ofChange wireStreamSpec)

/-- ITS FALSE NEIGHBOUR: 'it returns false'. Refute it at one input. -/
def wireStreamWrong : ChangeSpec := { name := "wireStream", fn := fun _ => fun
  | [d1, d2, d3, d4, d5] => { results := [.lit (.bool false)], args := [d1, d2, d3, d4, d5] }
  | _ => none }
def WireStreamWrongFalsely : Prop := wireStreamRow.holds Tryd.pinned (OpenSpec.ofChange wireStreamWrong)

/-- 'annalslaw1.WireLent': WHATEVER THE INPUT: true; the input reads as it did. -/
def wireLentSpec : ChangeSpec := { name := "wireLent", fn := fun _ => fun
  | [d1, d2] => { results := [.lit (.bool true)], args := [d1, d2] }
  | _ => none }
def wireLentRow : OpenClaim := { program := "ytbobigaifkffoaadoor", sum := "5264c7301c66a1c17b1062e55f8cb1bf249c37e89621156513eeb46c1d3fdcdb", func := "annals/annalslaw1.WireLent", spec := "wireLent", named := ["annals/wire.table"], apart := false, laid := [("annals/wire.table", laid_annals_wire_table)] }
def WireLentSaid : Prop := wireLentRow.holds Tryd.pinned (OpenSpec.ofChange wireLentSpec)

/-- ITS FALSE NEIGHBOUR: 'it returns false'. Refute it at one input. -/
def wireLentWrong : ChangeSpec := { name := "wireLent", fn := fun _ => fun
  | [d1, d2] => { results := [.lit (.bool false)], args := [d1, d2] }
  | _ => none }
def WireLentWrongFalsely : Prop := wireLentRow.holds Tryd.pinned (OpenSpec.ofChange wireLentWrong)

/-- 'annalslaw1.WireBack': WHATEVER THE INPUT: true; the input reads as it did. -/
def wireBackSpec : ChangeSpec := { name := "wireBack", fn := fun _ => fun
  | [d1, d2, d3, d4, d5] => { results := [.lit (.bool true)], args := [d1, d2, d3, d4, d5] }
  | _ => none }
def wireBackRow : OpenClaim := { program := "ytbobigaifkffoaadoor", sum := "5264c7301c66a1c17b1062e55f8cb1bf249c37e89621156513eeb46c1d3fdcdb", func := "annals/annalslaw1.WireBack", spec := "wireBack", named := ["annals/wire.table"], apart := false, laid := [("annals/wire.table", laid_annals_wire_table)] }
def WireBackSaid : Prop := wireBackRow.holds Tryd.pinned (OpenSpec.ofChange wireBackSpec)

/-- ITS FALSE NEIGHBOUR: 'it returns false'. Refute it at one input. -/
def wireBackWrong : ChangeSpec := { name := "wireBack", fn := fun _ => fun
  | [d1, d2, d3, d4, d5] => { results := [.lit (.bool false)], args := [d1, d2, d3, d4, d5] }
  | _ => none }
def WireBackWrongFalsely : Prop := wireBackRow.holds Tryd.pinned (OpenSpec.ofChange wireBackWrong)

/-- 'annalslaw1.WireOneWay': WHATEVER THE INPUT: true; the input reads as it did. -/
def wireOneWaySpec : ChangeSpec := { name := "wireOneWay", fn := fun _ => fun
  | [d1, d2, d3] => { results := [.lit (.bool true)], args := [d1, d2, d3] }
  | _ => none }
def wireOneWayRow : OpenClaim := { program := "ytbobigaifkffoaadoor", sum := "5264c7301c66a1c17b1062e55f8cb1bf249c37e89621156513eeb46c1d3fdcdb", func := "annals/annalslaw1.WireOneWay", spec := "wireOneWay", named := ["annals/wire.table"], apart := false, laid := [("annals/wire.table", laid_annals_wire_table)] }
def WireOneWaySaid : Prop := wireOneWayRow.holds Tryd.pinned (OpenSpec.ofChange wireOneWaySpec)

/-- ITS FALSE NEIGHBOUR: 'it returns false'. Refute it at one input. -/
def wireOneWayWrong : ChangeSpec := { name := "wireOneWay", fn := fun _ => fun
  | [d1, d2, d3] => { results := [.lit (.bool false)], args := [d1, d2, d3] }
  | _ => none }
def WireOneWayWrongFalsely : Prop := wireOneWayRow.holds Tryd.pinned (OpenSpec.ofChange wireOneWayWrong)

/-- 'annalslaw1.WireOwn': WHATEVER THE INPUT: true; the input reads as it did. -/
def wireOwnSpec : ChangeSpec := { name := "wireOwn", fn := fun _ => fun
  | [d1, d2, d3] => { results := [.lit (.bool true)], args := [d1, d2, d3] }
  | _ => none }
def wireOwnRow : OpenClaim := { program := "ytbobigaifkffoaadoor", sum := "5264c7301c66a1c17b1062e55f8cb1bf249c37e89621156513eeb46c1d3fdcdb", func := "annals/annalslaw1.WireOwn", spec := "wireOwn", named := ["annals/wire.table"], apart := false, laid := [("annals/wire.table", laid_annals_wire_table)] }
def WireOwnSaid : Prop := wireOwnRow.holds Tryd.pinned (OpenSpec.ofChange wireOwnSpec)

/-- ITS FALSE NEIGHBOUR: 'it returns false'. Refute it at one input. -/
def wireOwnWrong : ChangeSpec := { name := "wireOwn", fn := fun _ => fun
  | [d1, d2, d3] => { results := [.lit (.bool false)], args := [d1, d2, d3] }
  | _ => none }
def WireOwnWrongFalsely : Prop := wireOwnRow.holds Tryd.pinned (OpenSpec.ofChange wireOwnWrong)

/-- 'annalslaw1.WireNumbers': WHATEVER THE INPUT: true; the input reads as it did. -/
def wireNumbersSpec : ChangeSpec := { name := "wireNumbers", fn := fun _ => fun
  | [d] => { results := [.lit (.bool true)], args := [d] }
  | _ => none }
def wireNumbersRow : OpenClaim := { program := "ytbobigaifkffoaadoor", sum := "5264c7301c66a1c17b1062e55f8cb1bf249c37e89621156513eeb46c1d3fdcdb", func := "annals/annalslaw1.WireNumbers", spec := "wireNumbers", named := ["annals/wire.table"], apart := false, laid := [("annals/wire.table", laid_annals_wire_table)] }
def WireNumbersSaid : Prop := wireNumbersRow.holds Tryd.pinned (OpenSpec.ofChange wireNumbersSpec)

/-- ITS FALSE NEIGHBOUR: 'it returns false'. Refute it at one input. -/
def wireNumbersWrong : ChangeSpec := { name := "wireNumbers", fn := fun _ => fun
  | [d] => { results := [.lit (.bool false)], args := [d] }
  | _ => none }
def WireNumbersWrongFalsely : Prop := wireNumbersRow.holds Tryd.pinned (OpenSpec.ofChange wireNumbersWrong)

/-- 'annalslaw1.WireStrings': WHATEVER THE INPUT: true; the input reads as it did. -/
def wireStringsSpec : ChangeSpec := { name := "wireStrings", fn := fun _ => fun
  | [d] => { results := [.lit (.bool true)], args := [d] }
  | _ => none }
def wireStringsRow : OpenClaim := { program := "ytbobigaifkffoaadoor", sum := "5264c7301c66a1c17b1062e55f8cb1bf249c37e89621156513eeb46c1d3fdcdb", func := "annals/annalslaw1.WireStrings", spec := "wireStrings", named := ["annals/wire.table"], apart := false, laid := [("annals/wire.table", laid_annals_wire_table)] }
def WireStringsSaid : Prop := wireStringsRow.holds Tryd.pinned (OpenSpec.ofChange wireStringsSpec)

/-- ITS FALSE NEIGHBOUR: 'it returns false'. Refute it at one input. -/
def wireStringsWrong : ChangeSpec := { name := "wireStrings", fn := fun _ => fun
  | [d] => { results := [.lit (.bool false)], args := [d] }
  | _ => none }
def WireStringsWrongFalsely : Prop := wireStringsRow.holds Tryd.pinned (OpenSpec.ofChange wireStringsWrong)

/-- 'annalslaw1.WireSums': WHATEVER THE INPUT: true; the input reads as it did. -/
def wireSumsSpec : ChangeSpec := { name := "wireSums", fn := fun _ => fun
  | [d] => { results := [.lit (.bool true)], args := [d] }
  | _ => none }
def wireSumsRow : OpenClaim := { program := "ytbobigaifkffoaadoor", sum := "5264c7301c66a1c17b1062e55f8cb1bf249c37e89621156513eeb46c1d3fdcdb", func := "annals/annalslaw1.WireSums", spec := "wireSums", named := ["annals/wire.table"], apart := false, laid := [("annals/wire.table", laid_annals_wire_table)] }
def WireSumsSaid : Prop := wireSumsRow.holds Tryd.pinned (OpenSpec.ofChange wireSumsSpec)

/-- ITS FALSE NEIGHBOUR: 'it returns false'. Refute it at one input. -/
def wireSumsWrong : ChangeSpec := { name := "wireSums", fn := fun _ => fun
  | [d] => { results := [.lit (.bool false)], args := [d] }
  | _ => none }
def WireSumsWrongFalsely : Prop := wireSumsRow.holds Tryd.pinned (OpenSpec.ofChange wireSumsWrong)

/-- 'annalslaw1.WireFrames': WHATEVER THE INPUT: true; the input reads as it did. -/
def wireFramesSpec : ChangeSpec := { name := "wireFrames", fn := fun _ => fun
  | [d] => { results := [.lit (.bool true)], args := [d] }
  | _ => none }
def wireFramesRow : OpenClaim := { program := "ytbobigaifkffoaadoor", sum := "5264c7301c66a1c17b1062e55f8cb1bf249c37e89621156513eeb46c1d3fdcdb", func := "annals/annalslaw1.WireFrames", spec := "wireFrames", named := ["annals/wire.table"], apart := false, laid := [("annals/wire.table", laid_annals_wire_table)] }
def WireFramesSaid : Prop := wireFramesRow.holds Tryd.pinned (OpenSpec.ofChange wireFramesSpec)

/-- ITS FALSE NEIGHBOUR: 'it returns false'. Refute it at one input. -/
def wireFramesWrong : ChangeSpec := { name := "wireFrames", fn := fun _ => fun
  | [d] => { results := [.lit (.bool false)], args := [d] }
  | _ => none }
def WireFramesWrongFalsely : Prop := wireFramesRow.holds Tryd.pinned (OpenSpec.ofChange wireFramesWrong)

/-- 'annalslaw1.WireRuns': WHATEVER THE INPUT: true; the input reads as it did. -/
def wireRunsSpec : ChangeSpec := { name := "wireRuns", fn := fun _ => fun
  | [d] => { results := [.lit (.bool true)], args := [d] }
  | _ => none }
def wireRunsRow : OpenClaim := { program := "ytbobigaifkffoaadoor", sum := "5264c7301c66a1c17b1062e55f8cb1bf249c37e89621156513eeb46c1d3fdcdb", func := "annals/annalslaw1.WireRuns", spec := "wireRuns", named := ["annals/wire.table"], apart := false, laid := [("annals/wire.table", laid_annals_wire_table)] }
def WireRunsSaid : Prop := wireRunsRow.holds Tryd.pinned (OpenSpec.ofChange wireRunsSpec)

/-- ITS FALSE NEIGHBOUR: 'it returns false'. Refute it at one input. -/
def wireRunsWrong : ChangeSpec := { name := "wireRuns", fn := fun _ => fun
  | [d] => { results := [.lit (.bool false)], args := [d] }
  | _ => none }
def WireRunsWrongFalsely : Prop := wireRunsRow.holds Tryd.pinned (OpenSpec.ofChange wireRunsWrong)

/-- 'annalslaw1.WirePlays': WHATEVER THE INPUT: true; the input reads as it did. -/
def wirePlaysSpec : ChangeSpec := { name := "wirePlays", fn := fun _ => fun
  | [d] => { results := [.lit (.bool true)], args := [d] }
  | _ => none }
def wirePlaysRow : OpenClaim := { program := "ytbobigaifkffoaadoor", sum := "5264c7301c66a1c17b1062e55f8cb1bf249c37e89621156513eeb46c1d3fdcdb", func := "annals/annalslaw1.WirePlays", spec := "wirePlays", named := ["annals/wire.table"], apart := false, laid := [("annals/wire.table", laid_annals_wire_table)] }
def WirePlaysSaid : Prop := wirePlaysRow.holds Tryd.pinned (OpenSpec.ofChange wirePlaysSpec)

/-- ITS FALSE NEIGHBOUR: 'it returns false'. Refute it at one input. -/
def wirePlaysWrong : ChangeSpec := { name := "wirePlays", fn := fun _ => fun
  | [d] => { results := [.lit (.bool false)], args := [d] }
  | _ => none }
def WirePlaysWrongFalsely : Prop := wirePlaysRow.holds Tryd.pinned (OpenSpec.ofChange wirePlaysWrong)

/-- 'annalslaw1.WireAgain': WHATEVER THE INPUT: true; the input reads as it did. -/
def wireAgainSpec : ChangeSpec := { name := "wireAgain", fn := fun _ => fun
  | [d1, d2] => { results := [.lit (.bool true)], args := [d1, d2] }
  | _ => none }
def wireAgainRow : OpenClaim := { program := "ytbobigaifkffoaadoor", sum := "5264c7301c66a1c17b1062e55f8cb1bf249c37e89621156513eeb46c1d3fdcdb", func := "annals/annalslaw1.WireAgain", spec := "wireAgain", named := ["annals/wire.table"], apart := false, laid := [("annals/wire.table", laid_annals_wire_table)] }
def WireAgainSaid : Prop := wireAgainRow.holds Tryd.pinned (OpenSpec.ofChange wireAgainSpec)

/-- ITS FALSE NEIGHBOUR: 'it returns false'. Refute it at one input. -/
def wireAgainWrong : ChangeSpec := { name := "wireAgain", fn := fun _ => fun
  | [d1, d2] => { results := [.lit (.bool false)], args := [d1, d2] }
  | _ => none }
def WireAgainWrongFalsely : Prop := wireAgainRow.holds Tryd.pinned (OpenSpec.ofChange wireAgainWrong)

/- THE SECOND FORM. 'bulk': how many values and letters a reading holds, each counted each time it is reached (what is shared counts as often as it is met; a slice's spare places count too). A statement '..UptoSaid' is the law's where the arguments, and the package variables that the reading takes, are together of bulk at most 1048576: NARROWER than '..Said'. Prove '..Said' where nothing that the law and all that it calls make is longer than what came in: it says more and counts as full. Else prove '..UptoSaid'. A law counts once. -/
mutual
def uptoBulk {H : Type} : DataW H → Nat
  | .lit (.string bytes) => bytes.length + 1
  | .lit _ => 1
  | .nil => 1
  | .ptr d => uptoBulk d + 1
  | .slice elems spare => uptoBulkAll elems + uptoBulkAll spare + 1
  | .agg parts => uptoBulkAll parts + 1
  | .iface _ d => uptoBulk d + 1
  | .map entries => uptoBulkEntries entries + 1
  | .held _ => 1
def uptoBulkAll {H : Type} : List (DataW H) → Nat
  | [] => 0
  | d :: r => uptoBulk d + uptoBulkAll r
def uptoBulkEntries {H : Type} : List (Lit × DataW H) → Nat
  | [] => 0
  | x :: r => uptoBulkEntry x + uptoBulkEntries r
def uptoBulkEntry {H : Type} : Lit × DataW H → Nat
  | (.string bytes, d) => bytes.length + uptoBulk d + 1
  | (_, d) => uptoBulk d + 1
 end
def uptoSmall : (H : Type) → List (DataW H) → Bool := fun _ ds => decide (uptoBulkAll ds ≤ 1048576)
def OpenSpec.upto (s : _root_.Go.ChangeSpec) : _root_.Go.OpenSpec := { _root_.Go.OpenSpec.ofChange s with cond := some uptoSmall }

/-- 'annalslaw1.WireLaid', WHERE WHAT IT READS IS OF BULK AT MOST 1048576: true; the input reads as it did. -/
def wireLaidUptoRow : OpenClaim := { program := "ytbobigaifkffoaadoor", sum := "5264c7301c66a1c17b1062e55f8cb1bf249c37e89621156513eeb46c1d3fdcdb", func := "annals/annalslaw1.WireLaid", spec := "wireLaid", named := ["annals/wire.table"], apart := false, laid := [("annals/wire.table", laid_annals_wire_table)], narrowed := true }
def WireLaidUptoSaid : Prop := wireLaidUptoRow.holds Tryd.pinned (OpenSpec.upto wireLaidSpec)

/-- 'annalslaw1.WireTorn', WHERE WHAT IT READS IS OF BULK AT MOST 1048576: true; the input reads as it did. -/
def wireTornUptoRow : OpenClaim := { program := "ytbobigaifkffoaadoor", sum := "5264c7301c66a1c17b1062e55f8cb1bf249c37e89621156513eeb46c1d3fdcdb", func := "annals/annalslaw1.WireTorn", spec := "wireTorn", named := ["annals/wire.table"], apart := false, laid := [("annals/wire.table", laid_annals_wire_table)], narrowed := true }
def WireTornUptoSaid : Prop := wireTornUptoRow.holds Tryd.pinned (OpenSpec.upto wireTornSpec)

/-- 'annalslaw1.WireBurst', WHERE WHAT IT READS IS OF BULK AT MOST 1048576: true; the input reads as it did. -/
def wireBurstUptoRow : OpenClaim := { program := "ytbobigaifkffoaadoor", sum := "5264c7301c66a1c17b1062e55f8cb1bf249c37e89621156513eeb46c1d3fdcdb", func := "annals/annalslaw1.WireBurst", spec := "wireBurst", named := ["annals/wire.table"], apart := false, laid := [("annals/wire.table", laid_annals_wire_table)], narrowed := true }
def WireBurstUptoSaid : Prop := wireBurstUptoRow.holds Tryd.pinned (OpenSpec.upto wireBurstSpec)

/-- 'annalslaw1.WireStream', WHERE WHAT IT READS IS OF BULK AT MOST 1048576: true; the input reads as it did. -/
def wireStreamUptoRow : OpenClaim := { program := "ytbobigaifkffoaadoor", sum := "5264c7301c66a1c17b1062e55f8cb1bf249c37e89621156513eeb46c1d3fdcdb", func := "annals/annalslaw1.WireStream", spec := "wireStream", named := ["annals/wire.table"], apart := false, laid := [("annals/wire.table", laid_annals_wire_table)], narrowed := true }
def WireStreamUptoSaid : Prop := wireStreamUptoRow.holds Tryd.pinned (OpenSpec.upto wireStreamSpec)

/-- 'annalslaw1.WireLent', WHERE WHAT IT READS IS OF BULK AT MOST 1048576: true; the input reads as it did. -/
def wireLentUptoRow : OpenClaim := { program := "ytbobigaifkffoaadoor", sum := "5264c7301c66a1c17b1062e55f8cb1bf249c37e89621156513eeb46c1d3fdcdb", func := "annals/annalslaw1.WireLent", spec := "wireLent", named := ["annals/wire.table"], apart := false, laid := [("annals/wire.table", laid_annals_wire_table)], narrowed := true }
def WireLentUptoSaid : Prop := wireLentUptoRow.holds Tryd.pinned (OpenSpec.upto wireLentSpec)

/-- 'annalslaw1.WireBack', WHERE WHAT IT READS IS OF BULK AT MOST 1048576: true; the input reads as it did. -/
def wireBackUptoRow : OpenClaim := { program := "ytbobigaifkffoaadoor", sum := "5264c7301c66a1c17b1062e55f8cb1bf249c37e89621156513eeb46c1d3fdcdb", func := "annals/annalslaw1.WireBack", spec := "wireBack", named := ["annals/wire.table"], apart := false, laid := [("annals/wire.table", laid_annals_wire_table)], narrowed := true }
def WireBackUptoSaid : Prop := wireBackUptoRow.holds Tryd.pinned (OpenSpec.upto wireBackSpec)

/-- 'annalslaw1.WireOneWay', WHERE WHAT IT READS IS OF BULK AT MOST 1048576: true; the input reads as it did. -/
def wireOneWayUptoRow : OpenClaim := { program := "ytbobigaifkffoaadoor", sum := "5264c7301c66a1c17b1062e55f8cb1bf249c37e89621156513eeb46c1d3fdcdb", func := "annals/annalslaw1.WireOneWay", spec := "wireOneWay", named := ["annals/wire.table"], apart := false, laid := [("annals/wire.table", laid_annals_wire_table)], narrowed := true }
def WireOneWayUptoSaid : Prop := wireOneWayUptoRow.holds Tryd.pinned (OpenSpec.upto wireOneWaySpec)

/-- 'annalslaw1.WireOwn', WHERE WHAT IT READS IS OF BULK AT MOST 1048576: true; the input reads as it did. -/
def wireOwnUptoRow : OpenClaim := { program := "ytbobigaifkffoaadoor", sum := "5264c7301c66a1c17b1062e55f8cb1bf249c37e89621156513eeb46c1d3fdcdb", func := "annals/annalslaw1.WireOwn", spec := "wireOwn", named := ["annals/wire.table"], apart := false, laid := [("annals/wire.table", laid_annals_wire_table)], narrowed := true }
def WireOwnUptoSaid : Prop := wireOwnUptoRow.holds Tryd.pinned (OpenSpec.upto wireOwnSpec)

/-- 'annalslaw1.WireNumbers', WHERE WHAT IT READS IS OF BULK AT MOST 1048576: true; the input reads as it did. -/
def wireNumbersUptoRow : OpenClaim := { program := "ytbobigaifkffoaadoor", sum := "5264c7301c66a1c17b1062e55f8cb1bf249c37e89621156513eeb46c1d3fdcdb", func := "annals/annalslaw1.WireNumbers", spec := "wireNumbers", named := ["annals/wire.table"], apart := false, laid := [("annals/wire.table", laid_annals_wire_table)], narrowed := true }
def WireNumbersUptoSaid : Prop := wireNumbersUptoRow.holds Tryd.pinned (OpenSpec.upto wireNumbersSpec)

/-- 'annalslaw1.WireStrings', WHERE WHAT IT READS IS OF BULK AT MOST 1048576: true; the input reads as it did. -/
def wireStringsUptoRow : OpenClaim := { program := "ytbobigaifkffoaadoor", sum := "5264c7301c66a1c17b1062e55f8cb1bf249c37e89621156513eeb46c1d3fdcdb", func := "annals/annalslaw1.WireStrings", spec := "wireStrings", named := ["annals/wire.table"], apart := false, laid := [("annals/wire.table", laid_annals_wire_table)], narrowed := true }
def WireStringsUptoSaid : Prop := wireStringsUptoRow.holds Tryd.pinned (OpenSpec.upto wireStringsSpec)

/-- 'annalslaw1.WireSums', WHERE WHAT IT READS IS OF BULK AT MOST 1048576: true; the input reads as it did. -/
def wireSumsUptoRow : OpenClaim := { program := "ytbobigaifkffoaadoor", sum := "5264c7301c66a1c17b1062e55f8cb1bf249c37e89621156513eeb46c1d3fdcdb", func := "annals/annalslaw1.WireSums", spec := "wireSums", named := ["annals/wire.table"], apart := false, laid := [("annals/wire.table", laid_annals_wire_table)], narrowed := true }
def WireSumsUptoSaid : Prop := wireSumsUptoRow.holds Tryd.pinned (OpenSpec.upto wireSumsSpec)

/-- 'annalslaw1.WireFrames', WHERE WHAT IT READS IS OF BULK AT MOST 1048576: true; the input reads as it did. -/
def wireFramesUptoRow : OpenClaim := { program := "ytbobigaifkffoaadoor", sum := "5264c7301c66a1c17b1062e55f8cb1bf249c37e89621156513eeb46c1d3fdcdb", func := "annals/annalslaw1.WireFrames", spec := "wireFrames", named := ["annals/wire.table"], apart := false, laid := [("annals/wire.table", laid_annals_wire_table)], narrowed := true }
def WireFramesUptoSaid : Prop := wireFramesUptoRow.holds Tryd.pinned (OpenSpec.upto wireFramesSpec)

/-- 'annalslaw1.WireRuns', WHERE WHAT IT READS IS OF BULK AT MOST 1048576: true; the input reads as it did. -/
def wireRunsUptoRow : OpenClaim := { program := "ytbobigaifkffoaadoor", sum := "5264c7301c66a1c17b1062e55f8cb1bf249c37e89621156513eeb46c1d3fdcdb", func := "annals/annalslaw1.WireRuns", spec := "wireRuns", named := ["annals/wire.table"], apart := false, laid := [("annals/wire.table", laid_annals_wire_table)], narrowed := true }
def WireRunsUptoSaid : Prop := wireRunsUptoRow.holds Tryd.pinned (OpenSpec.upto wireRunsSpec)

/-- 'annalslaw1.WirePlays', WHERE WHAT IT READS IS OF BULK AT MOST 1048576: true; the input reads as it did. -/
def wirePlaysUptoRow : OpenClaim := { program := "ytbobigaifkffoaadoor", sum := "5264c7301c66a1c17b1062e55f8cb1bf249c37e89621156513eeb46c1d3fdcdb", func := "annals/annalslaw1.WirePlays", spec := "wirePlays", named := ["annals/wire.table"], apart := false, laid := [("annals/wire.table", laid_annals_wire_table)], narrowed := true }
def WirePlaysUptoSaid : Prop := wirePlaysUptoRow.holds Tryd.pinned (OpenSpec.upto wirePlaysSpec)

/-- 'annalslaw1.WireAgain', WHERE WHAT IT READS IS OF BULK AT MOST 1048576: true; the input reads as it did. -/
def wireAgainUptoRow : OpenClaim := { program := "ytbobigaifkffoaadoor", sum := "5264c7301c66a1c17b1062e55f8cb1bf249c37e89621156513eeb46c1d3fdcdb", func := "annals/annalslaw1.WireAgain", spec := "wireAgain", named := ["annals/wire.table"], apart := false, laid := [("annals/wire.table", laid_annals_wire_table)], narrowed := true }
def WireAgainUptoSaid : Prop := wireAgainUptoRow.holds Tryd.pinned (OpenSpec.upto wireAgainSpec)

end Rows
end Go.Proofs.YtbobigaifkffoaaDoor
