/-
  THE WALK of the law's helper: numbers.
-/
import Derived.Test.YtbobigaifkffoaaDoorL23
namespace Go.Proofs.YtbobigaifkffoaaDoor
open Go.RowKit
set_option linter.unusedVariables false
set_option linter.unusedSimpArgs false

/-- One call, as a value. -/
def opV (kd u i at_ mx : Int) (vb vp : Value) : Value := .agg #[.int .i64 kd, .int .u64 u, .int .i64 i, .int .i64 at_, .int .i64 mx, vb, vp]
/-- A block that holds these cells. -/
def BoxAt (w : World) (g : Nat) (cs : Array Value) : Prop := ∀ j v, cs[j]? = some v → w.cell? ⟨g, j, none⟩ = some v
theorem box_new (w : World) (cs : Array Value) (t : TypeId) : BoxAt (w.alloc (.cells cs t)) w.heap.size cs := by
  intro j v h
  rw [cell_of_row _ w.heap.size j _ t (0, 0) (heap_new w _)]
  exact h
theorem BoxAt.below {w w1 : World} {g : Nat} {cs : Array Value} (h : BoxAt w g cs) (hb : Below w.heap.size w w1) : BoxAt w1 g cs := fun j v hj => cell_below hb (h j v hj)

set_option maxRecDepth 100000 in
set_option maxHeartbeats 2000000 in
/-- 'numbers'. -/
theorem numbers_any (kd i at_ mx : Int) (u : Nat) (vb vp : Value) (B : List UInt8) (w : World) (h : Rd w vb B) (hu : Is64 u) (hi : -9223372036854775808 ≤ i ∧ i ≤ 9223372036854775807) (ha : -9223372036854775808 ≤ at_) :
    Calls Tryd.prog 47 #[opV kd u i at_ mx vb vp] w fun e w' => e = .returned (.bool true) ∧ Below w.heap.size w w' := by
  obtain ⟨A0, c0, rfl⟩ := h.form
  have HR := Hd.mk h
  obtain ⟨U, hU⟩ : ∃ U, uenc u = U := ⟨_, rfl⟩
  obtain ⟨I, hI⟩ : ∃ I, uenc (zig i) = I := ⟨_, rfl⟩
  obtain ⟨x, p, er, hE⟩ : ∃ x p er, rdU B at_ = (x, p, er) := ⟨_, _, _, rfl⟩
  obtain ⟨y, q, es, hF⟩ : ∃ x p er, rdI B at_ = (x, p, er) := ⟨_, _, _, rfl⟩
  have C1 := Hd.mk fun W => uint_e u U W hu hU
  have D1 := Hd.mk fun W => dUint_e u U W hu hU
  have C3 := Hd.mk fun W => int_e i I W hi hI
  have D3 := Hd.mk fun W => dInt_e i I W hi hI
  have C2 := Hd.mk fun W V (h : Rd W V B) => readUint_e V B at_ x p er W h ha hE
  have D2 := Hd.mk fun W V (h : Rd W V B) => dReadUint_e V B at_ x p er W h ha hE
  have C4 := Hd.mk fun W V (h : Rd W V B) => readInt_e V B at_ y q es W h ha hF
  have D4 := Hd.mk fun W V (h : Rd W V B) => dReadInt_e V B at_ y q es W h ha hF
  have n2 : ∀ z : Int, (z == z) = true := fun z => beq_self_eq_true z
  clear h hu hi ha hU hI hE hF
  unfold opV
  obtain ⟨cs, hcs⟩ : ∃ cs : Array Value, #[.int .i64 kd, .int .u64 u, .int .i64 i, .int .i64 at_, .int .i64 mx, .slice A0 B.length c0, vp] = cs := ⟨_, rfl⟩
  have BX := Hd.mk (box_new w cs 66)
  rw [← hcs] at BX
  clear hcs
  have HR1 := Hd.mk (HR.out.alloc (.cells #[.int .i64 kd, .int .u64 u, .int .i64 i, .int .i64 at_, .int .i64 mx, .slice A0 B.length c0, vp] 66))
  have B0 := Hd.mk ((Below.refl w.heap.size w).alloc (Nat.le_refl _) (.cells #[.int .i64 kd, .int .u64 u, .int .i64 i, .int .i64 at_, .int .i64 mx, .slice A0 B.length c0, vp] 66))
  by_cases K0 : kd = 1
  · have b1 : (kd == 1) = true := beq_t K0
    clear K0
    go_enter Tryd.func47, Tryd.ntmps47
    go_wp2_with fail
    refine (C1.out _).mono ?_
    rintro e w1 ⟨A1, c1, rfl, ho, hb⟩
    have R1 := Hd.mk ho.rd
    have B1 := Hd.mk (below_then B0.out (hb_alloc (Below.refl _ _) (Nat.le_refl _) _) hb)
    have f1 := (BX.out.below hb) 1 _ rfl
    clear ho hb
    go_wp2_with fail
    refine (D1.out _).mono ?_
    rintro e w2 ⟨A2, c2, rfl, ho, hb⟩
    have R2 := Hd.mk ho.rd
    have R12 := Hd.mk (R1.out.below hb)
    have B2 := Hd.mk (bel_call0 B1.out hb)
    clear ho hb f1
    go_wp2_with fail
    refine (same_any _ _ U U true _ R12.out R2.out (by simp)).mono ?_
    rintro e w3 ⟨rfl, hb⟩
    have B3 := Hd.mk (bel_call0 B2.out hb)
    clear hb
    go_wp2
    go_ret
    exact ⟨rfl, B3.out⟩
  · have b1 : (kd == 1) = false := beq_f K0
    clear K0
    by_cases K0 : kd = 2
    · have b2 : (kd == 2) = true := beq_t K0
      clear K0
      go_enter Tryd.func47, Tryd.ntmps47
      go_wp2_with fail
      refine (C2.out _ _ HR1.out).mono ?_
      rintro e w' ⟨rfl, rfl⟩
      go_wp2_with fail
      refine (D2.out _ _ HR1.out).mono ?_
      rintro e w' ⟨rfl, rfl⟩
      go_wp2_with (go_at_call 24; refine (num_any _ _).mono ?_; rintro e w' ⟨rfl, rfl⟩)
      go_ret
      exact ⟨rfl, B0.out⟩
    · have b2 : (kd == 2) = false := beq_f K0
      clear K0
      by_cases K0 : kd = 3
      · have b3 : (kd == 3) = true := beq_t K0
        clear K0
        go_enter Tryd.func47, Tryd.ntmps47
        go_wp2_with fail
        refine (C3.out _).mono ?_
        rintro e w1 ⟨A1, c1, rfl, ho, hb⟩
        have R1 := Hd.mk ho.rd
        have B1 := Hd.mk (below_then B0.out (hb_alloc (Below.refl _ _) (Nat.le_refl _) _) hb)
        have f1 := (BX.out.below hb) 2 _ rfl
        clear ho hb
        go_wp2_with fail
        refine (D3.out _).mono ?_
        rintro e w2 ⟨A2, c2, rfl, ho, hb⟩
        have R2 := Hd.mk ho.rd
        have R12 := Hd.mk (R1.out.below hb)
        have B2 := Hd.mk (bel_call0 B1.out hb)
        clear ho hb f1
        go_wp2_with fail
        refine (same_any _ _ I I true _ R12.out R2.out (by simp)).mono ?_
        rintro e w3 ⟨rfl, hb⟩
        have B3 := Hd.mk (bel_call0 B2.out hb)
        clear hb
        go_wp2
        go_ret
        exact ⟨rfl, B3.out⟩
      · have b3 : (kd == 3) = false := beq_f K0
        clear K0
        go_enter Tryd.func47, Tryd.ntmps47
        go_wp2_with fail
        refine (C4.out _ _ HR1.out).mono ?_
        rintro e w' ⟨rfl, rfl⟩
        go_wp2_with fail
        refine (D4.out _ _ HR1.out).mono ?_
        rintro e w' ⟨rfl, rfl⟩
        go_wp2_with (go_at_call 24; refine (num_any _ _).mono ?_; rintro e w' ⟨rfl, rfl⟩)
        go_ret
        exact ⟨rfl, B0.out⟩

end Go.Proofs.YtbobigaifkffoaaDoor
