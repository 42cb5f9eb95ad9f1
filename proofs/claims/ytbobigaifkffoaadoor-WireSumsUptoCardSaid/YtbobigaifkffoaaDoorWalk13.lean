/-
  THE WALK of the law WireSums.
-/
import Derived.Test.YtbobigaifkffoaaDoorL29
namespace Go.Proofs.YtbobigaifkffoaaDoor
open Go.RowKit
set_option linter.unusedVariables false
set_option linter.unusedSimpArgs false

theorem crc_97 : crc [[97]].flatten = 3904355907#32 := by decide +kernel

/-- 'WireSums': true for every list of calls. -/
theorem wireSums_walk (v : Value) (os : List OpD) (w : World) (h : RdO w v os) (hT : TabOk w) :
    Calls Tryd.prog 13 #[v] w fun e w' => e = .returned (.bool true) ∧ Below w.heap.size w w' := by
  obtain ⟨A, cap, rfl, hls⟩ := h.form
  have HR := Hd.mk h
  have HT := Hd.mk hT
  clear h hT
  go_enter Tryd.func13, Tryd.ntmps13
  go_wp2_with fail
  refine (sum_e _ [[97]] _ _ (RdL.at1 (by simp) (Rd.atN _ 1 _ rfl rfl rfl (by simp))) ((HT.out.alloc _).alloc _) crc_97).mono ?_
  rintro e w1 ⟨rfl, hb⟩
  have B1 := Hd.mk (bel_call ((Below.refl _ _).alloc (Nat.le_refl _) _) _ hb)
  clear hb
  go_wp2_with fail
  refine (upTo_any _ os 7 7 _ (HR.out.below B1.out) (HT.out.below B1.out)).mono ?_
  rintro e w2 ⟨rfl, hb⟩
  have B2 := Hd.mk (bel_call0 B1.out hb)
  clear hb
  go_wp2
  go_ret
  exact ⟨rfl, B2.out⟩

end Go.Proofs.YtbobigaifkffoaaDoor
