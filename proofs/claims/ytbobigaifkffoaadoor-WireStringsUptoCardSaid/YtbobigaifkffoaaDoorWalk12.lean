/-
  THE WALK of the law WireStrings.
-/
import Derived.Test.YtbobigaifkffoaaDoorL29
namespace Go.Proofs.YtbobigaifkffoaaDoor
open Go.RowKit
set_option linter.unusedVariables false
set_option linter.unusedSimpArgs false

/-- 'WireStrings': true for every list of calls. -/
theorem wireStrings_walk (v : Value) (os : List OpD) (w : World) (h : RdO w v os) (hT : TabOk w) :
    Calls Tryd.prog 12 #[v] w fun e w' => e = .returned (.bool true) ∧ Below w.heap.size w w' := by
  obtain ⟨A, cap, rfl, hls⟩ := h.form
  have HR := Hd.mk h
  have HT := Hd.mk hT
  clear h hT
  go_enter Tryd.func12, Tryd.ntmps12
  go_wp2_with fail
  refine (started_any _).mono ?_
  rintro e w1 ⟨rfl, hb⟩
  have B1 := Hd.mk hb
  clear hb
  go_wp2_with fail
  refine (upTo_any _ os 5 6 _ (HR.out.below B1.out) (HT.out.below B1.out)).mono ?_
  rintro e w2 ⟨rfl, hb⟩
  have B2 := Hd.mk (bel_call0 B1.out hb)
  clear hb
  go_wp2
  go_ret
  exact ⟨rfl, B2.out⟩

end Go.Proofs.YtbobigaifkffoaaDoor
