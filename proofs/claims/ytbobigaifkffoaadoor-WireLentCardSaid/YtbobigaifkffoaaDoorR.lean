/-
  WHAT THE ROWS' PROOFS SHARE: the table out of the row's list; a witness' world; byte slices and lists of byte slices that came in.
-/
import Derived.Test.YtbobigaifkffoaaDoorCards
import Derived.Test.YtbobigaifkffoaaDoorTie
import Derived.Test.YtbobigaifkffoaaDoorL2
import Derived.WalkKit
import Derived.ProofKit
import Derived.OpenShut
import Derived.SizedLaws
import Derived.Deep.DeepHandedRow
import Derived.Deep.Slices
import Derived.Lib.LaidTab
namespace Go.Proofs.YtbobigaifkffoaaDoor
open Go.ChangeShapes Go.WideShapes Go.ChangeAt Go.RowKit
set_option linter.unusedVariables false

theorem own : ownKnob Tryd.prog.godebug = none := by kernel_rfl
theorem laidOut : laidOutB Tryd.prog = true := by kernel_rfl
theorem gTab : Tryd.prog.globalNamed "annals/wire.table" = some 0 := by kernel_rfl
theorem gTabType : (Tryd.prog.globals[0]?).map (·.type) = some 76 := by kernel_rfl
theorem cells76 : Tryd.prog.cellsOf 76 = 16 := by kernel_rfl
theorem cells25 : Tryd.prog.cellsOf 25 = 1 := by kernel_rfl
theorem cells5 : Tryd.prog.cellsOf 5 = 1 := by kernel_rfl
theorem bytes5 : Tryd.prog.bytesOf 5 = 1 := by kernel_rfl
def tblI : List Int := [0, 498536548, 997073096, 651767980, 1994146192, 1802195444, 1303535960, 1342533948, 3988292384, 4027552580, 3604390888, 3412177804, 2607071920, 2262029012, 2685067896, 3183342108]
def theLaid : List (String × DataW Unit) := [("annals/wire.table", Rows.laid_annals_wire_table)]

/-- WHAT THE ROW's LIST GIVES: the table's sixteen cells. -/
theorem table_ok {W : World} (h : laidMetH Tryd.prog theLaid W) : TabOk W := by
  have hT : Lib.TabIs Tryd.prog W "annals/wire.table" .u32 tblI := Lib.tabIs_of_head (rest := []) gTab gTabType Tryd.underlying76 Tryd.underlying25 cells25 cells76 h
  intro i hi
  have h1 := hT.cell gTab i hi
  have h2 : ∀ i, i < 16 → tblI.getD i 0 = ((tbl.getD i 0 : Nat) : Int) := by decide
  rw [h1, h2 i hi]

/-- A WORLD FOR THE WITNESS: the settled one, the table (block 0) holding what its initialiser lays. -/
noncomputable def laidWorld (os : Os) : World :=
  { World.holding Tryd.prog os ⟨#[], #[], []⟩ with heap := (World.holding Tryd.prog os ⟨#[], #[], []⟩).heap.modify 0 fun
      | .cells _ t frozen => .cells (tblI.map fun z => Value.int .u32 z).toArray t frozen
      | o => o }

theorem bd_i64 {x : Int} (h : (Lit.int .i64 x).wf = true) : -9223372036854775808 ≤ x ∧ x ≤ 9223372036854775807 := by
  simpa [Lit.wf, IntKind.min, IntKind.max, IntKind.signed, IntKind.bits] using h
theorem bd_u64 {x : Int} (h : (Lit.int .u64 x).wf = true) : 0 ≤ x ∧ x ≤ 18446744073709551615 := by
  simpa [Lit.wf, IntKind.min, IntKind.max, IntKind.signed, IntKind.bits] using h
theorem bd_u32 {x : Int} (h : (Lit.int .u32 x).wf = true) : 0 ≤ x ∧ x ≤ 4294967295 := by
  simpa [Lit.wf, IntKind.min, IntKind.max, IntKind.signed, IntKind.bits] using h

variable {H : Type} {enc : TypeId × Value → H}
/-- A byte slice that came in reads as some list of bytes. -/
theorem bytes_in {W : World} {a : Option Addr} {len cap : Nat} {d : DataW H} {p : List MemPlace} {sp : Nat → Bool} {hd : Bool} {base : Nat}
    (h : DataW.Trod enc Tryd.prog W base sp hd 22 (.slice a len cap) d p) (hs : ∀ elems spare, d = .slice elems spare → (elems.length + spare.length) * Tryd.prog.bytesOf 5 ≤ reachBytes) (hsp : ∀ k, sp k = true) :
    ∃ L, L.length ≤ 140737488351232 ∧ Rd W (.slice a len cap) L := by
  obtain ⟨fuel, hf⟩ := h
  rcases open_ints Tryd.underlying22 Tryd.underlying5 (by kernel_rfl) hf with ⟨hcs, _⟩ | ⟨x, l, c, zs, hcs, _, hl, hm, hz, hx, hcell, hwz⟩
  · simp [Value.cells] at hcs
    obtain ⟨rfl, rfl, rfl⟩ := hcs
    exact ⟨[], by simp, Rd.nil W⟩
  · simp [Value.cells] at hcs
    obtain ⟨rfl, rfl, rfl⟩ := hcs
    rw [hsp, if_pos rfl] at hz
    have hd' : d = .slice (lits .u8 (zs.take len)) (lits .u8 (zs.drop len)) := congrArg Prod.fst hx
    have hsz := hs _ _ hd'
    rw [bytes5] at hsz
    simp only [lits, List.length_map, List.length_take, List.length_drop, reachBytes] at hsz
    have hlen : len ≤ 140737488351232 := by omega
    refine ⟨(zs.take len).map fun z => UInt8.ofNat z.toNat, by simp; omega, some x, cap, ?_, ?_, fun h => by (cases h), ?_, ?_⟩
    · simp [List.length_take, Nat.min_eq_left (show len ≤ zs.length by omega)]
    · simp; omega
    · simp; omega
    · intro h0
      refine ⟨x, rfl, fun j hj => ?_⟩
      have hj' : j < len := by simp at hj; omega
      rw [hcell j (by omega)]
      have hmem : zs.getD j 0 ∈ zs := by
        rw [List.getD_eq_getElem?_getD, List.getElem?_eq_getElem (by omega)]
        exact List.getElem_mem _
      have hw := hwz _ hmem
      have hb : 0 ≤ zs.getD j 0 ∧ zs.getD j 0 ≤ 255 := by
        simpa [Lit.wf, IntKind.min, IntKind.max, IntKind.signed, IntKind.bits] using hw
      congr 2
      have hj2 : j < zs.length := by omega
      simp only [List.getD_eq_getElem?_getD, List.getElem?_map, List.getElem?_take, if_pos hj', List.getElem?_eq_getElem hj2, Option.map_some, Option.getD_some] at hb ⊢
      simp
      omega

end Go.Proofs.YtbobigaifkffoaaDoor
