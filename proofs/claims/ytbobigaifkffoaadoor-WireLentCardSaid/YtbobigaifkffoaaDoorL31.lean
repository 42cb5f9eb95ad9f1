/-
  Lists of calls, of any length of bytes; stretches' own call of ReadBytes; what a store elsewhere leaves.
-/
import Derived.Test.YtbobigaifkffoaaDoorL30
namespace Go.Proofs.YtbobigaifkffoaaDoor
open Go.RowKit
set_option linter.unusedVariables false
set_option linter.unusedSimpArgs false

/-- Numbers in their kinds' ranges. -/
def OpD.OkW (o : OpD) : Prop := Is64 o.u ∧ (-9223372036854775808 ≤ o.i ∧ o.i ≤ 9223372036854775807) ∧ -9223372036854775808 ≤ o.at_ ∧ o.mx ≤ 9223372036854775807
/-- A list of calls that reads as os. -/
def RdOw (w : World) (v : Value) (os : List OpD) : Prop :=
  ∃ A cap, v = .slice A os.length cap ∧ os.length ≤ 140737555464192 ∧ (0 < os.length → ∃ ad, A = some ad ∧ ∀ j o, os[j]? = some o → o.OkW ∧ OpAt w (ad.add (j * 7)) o)
theorem RdOw.form {w : World} {v : Value} {os : List OpD} (h : RdOw w v os) : ∃ A c, v = .slice A os.length c ∧ os.length ≤ 140737555464192 := by
  obtain ⟨A, c, e, hl, _⟩ := h
  exact ⟨A, c, e, hl⟩
theorem RdOw.at_ {w : World} {A : Option Addr} {n c : Nat} {os : List OpD} (h : RdOw w (.slice A n c) os) (k : Nat) (hk : k < os.length) : ∃ ad o, A = some ad ∧ os[k]? = some o ∧ o.OkW ∧ OpAt w (ad.add (k * 7)) o := by
  obtain ⟨A', c', e, hl, h⟩ := h
  injection e with e1 e2 e3
  subst e1
  obtain ⟨ad, e, h0⟩ := h (by omega)
  have ho : os[k]? = some os[k] := List.getElem?_eq_getElem hk
  exact ⟨ad, os[k], e, ho, (h0 k _ ho).1, (h0 k _ ho).2⟩
theorem OpAt.belowB {B : Nat} {w w1 : World} {a : Addr} {o : OpD} (h : OpAt w a o) (hb : Below w.heap.size w w1) : OpAt w1 a o := h.below hb

/-- What came in lies in the old blocks. -/
theorem Rd.old {w W : World} {v : Value} {L : List UInt8} (h : Rd w v L) (hW : ∀ j, j < w.heap.size → W.heap[j]? = w.heap[j]?) : Rd W v L := by
  obtain ⟨A, cap, e, h1, hn, h2, h3⟩ := h
  refine ⟨A, cap, e, h1, hn, h2, fun h0 => ?_⟩
  obtain ⟨ad, e, hc⟩ := h3 h0
  refine ⟨ad, e, fun j hj => ?_⟩
  have hc1 := hc j hj
  rw [World.cell?_of_block (hW _ (World.block_lt_of_cell? w _ hc1))]
  exact hc1
theorem Own.setO {B : Nat} {w : World} {v : Value} {L : List UInt8} (h : Own B w v L) {a : Addr} (ha : v.ownBlock ≠ some a.block) (u : Value) : Own B (w.setCell a u) v L := ⟨h.1, ownsRow_setCell_other h.2 ha u⟩
theorem Own.ne {B w w' : Nat} {W : World} {v : Value} {L : List UInt8} (h : Own B W v L) {a : Addr} (ha : a.block < B ∨ W.heap.size ≤ a.block) : v.ownBlock ≠ some a.block := by
  intro e
  have := h.2.lt _ e
  omega

theorem frozen_block {w W : World} {a : Addr} (h : W.heap[a.block]? = w.heap[a.block]?) : W.frozen? a = w.frozen? a := by
  simp only [World.frozen?, h]
/-- The block of a row of the call's own is there. -/
theorem Own.head1 {B : Nat} {w : World} {g n c : Nat} {L : List UInt8} (h : Own B w (.slice (some ⟨g, 0, none⟩) n c) L) : B ≤ g ∧ g < w.heap.size := h.2.lt g rfl

set_option maxRecDepth 100000 in
set_option maxHeartbeats 1000000 in
/-- 'stretches' at ReadBytes. -/
theorem stretches6_any (kd u i at_ mx : Int) (vb vp : Value) (B : List UInt8) (w : World) (h : Rd w vb B) (ha : -9223372036854775808 ≤ at_) (hm : mx ≤ 9223372036854775807) (b1 : (kd == 5) = false) (b2 : (kd == 6) = true) :
    Calls Tryd.prog 46 #[opV kd u i at_ mx vb vp] w fun e w' => e = .returned (.bool true) ∧ Below w.heap.size w w' := by
  obtain ⟨A0, c0, rfl⟩ := h.form
  have HR := Hd.mk h
  obtain ⟨S, p, er, hE⟩ : ∃ x p er, rdB B at_ mx = (x, p, er) := ⟨_, _, _, rfl⟩
  have C6 := Hd.mk fun W V (h : Rd W V B) => readBytes_e V B S at_ mx p er W h ha hm hE
  have D6 := Hd.mk fun W V (h : Rd W V B) => dReadBytes_e V B S at_ mx p er W h ha hm hE
  have n2 : ∀ z : Int, (z == z) = true := fun z => beq_self_eq_true z
  clear h ha hm hE
  unfold opV
  obtain ⟨cs, hcs⟩ : ∃ cs : Array Value, #[.int .i64 kd, .int .u64 u, .int .i64 i, .int .i64 at_, .int .i64 mx, .slice A0 B.length c0, vp] = cs := ⟨_, rfl⟩
  have BX := Hd.mk (box_new w cs 66)
  rw [← hcs] at BX
  clear hcs
  have HR1 := Hd.mk (HR.out.alloc (.cells #[.int .i64 kd, .int .u64 u, .int .i64 i, .int .i64 at_, .int .i64 mx, .slice A0 B.length c0, vp] 66))
  have B0 := Hd.mk ((Below.refl w.heap.size w).alloc (Nat.le_refl _) (.cells #[.int .i64 kd, .int .u64 u, .int .i64 i, .int .i64 at_, .int .i64 mx, .slice A0 B.length c0, vp] 66))
  go_enter Tryd.func46, Tryd.ntmps46
  go_wp2_with fail
  refine (C6.out _ _ HR1.out).mono ?_
  rintro e w1 ⟨A1, c1, rfl, ho, hb⟩
  have R1 := Hd.mk ho.rd
  have B1 := Hd.mk (below_then B0.out (hb_alloc (Below.refl _ _) (Nat.le_refl _) _) hb)
  have BX1 := BX.out.below hb
  have f3 := BX1 3 _ rfl
  have f4 := BX1 4 _ rfl
  have f5 := BX1 5 _ rfl
  have f6 := BX1 6 _ rfl
  have HR2 := Hd.mk (HR1.out.below hb)
  clear ho hb BX1
  go_wp2_with fail
  refine (D6.out _ _ HR2.out).mono ?_
  rintro e w2 ⟨A2, c2, rfl, ho, hb⟩
  have R2 := Hd.mk ho.rd
  have R12 := Hd.mk (R1.out.below hb)
  have B2 := Hd.mk (bel_call0 B1.out hb)
  clear ho hb f3 f4 f5 f6
  go_wp2_with fail
  refine (same_any _ _ S S true _ R12.out R2.out (by simp)).mono ?_
  rintro e w3 ⟨rfl, hb⟩
  have B3 := Hd.mk (bel_call0 B2.out hb)
  clear hb
  go_wp2_with (go_at_call 24; refine (num_any _ _).mono ?_; rintro e w' ⟨rfl, rfl⟩)
  go_ret
  exact ⟨rfl, B3.out⟩

theorem kinds2 (kd : Int) : ((kd == 2) = true ∧ (kd == 6) = false) ∨ ((kd == 2) = false ∧ (kd == 4) = true ∧ (kd == 6) = false) ∨ ((kd == 2) = false ∧ (kd == 4) = false ∧ (kd == 6) = true ∧ (kd == 5) = false) ∨ ((kd == 2) = false ∧ (kd == 4) = false ∧ (kd == 6) = false ∧ (kd == 5) = true) ∨ ((kd == 2) = false ∧ (kd == 4) = false ∧ (kd == 6) = false ∧ (kd == 5) = false ∧ (kd == 7) = true) ∨ ((kd == 2) = false ∧ (kd == 4) = false ∧ (kd == 6) = false ∧ (kd == 5) = false ∧ (kd == 7) = false ∧ (kd == 8) = true) ∨ ((kd == 2) = false ∧ (kd == 4) = false ∧ (kd == 6) = false ∧ (kd == 5) = false ∧ (kd == 7) = false ∧ (kd == 8) = false ∧ (kd == 9) = true) ∨ ((kd == 2) = false ∧ (kd == 4) = false ∧ (kd == 6) = false ∧ (kd == 5) = false ∧ (kd == 7) = false ∧ (kd == 8) = false ∧ (kd == 9) = false ∧ (kd == 10) = true) ∨ ((kd == 2) = false ∧ (kd == 4) = false ∧ (kd == 6) = false ∧ (kd == 5) = false ∧ (kd == 7) = false ∧ (kd == 8) = false ∧ (kd == 9) = false ∧ (kd == 10) = false) := by
  by_cases h2 : kd = 2
  · subst h2; decide
  by_cases h4 : kd = 4
  · subst h4; decide
  by_cases h6 : kd = 6
  · subst h6; decide
  by_cases h5 : kd = 5
  · subst h5; decide
  by_cases h7 : kd = 7
  · subst h7; decide
  by_cases h8 : kd = 8
  · subst h8; decide
  by_cases h9 : kd = 9
  · subst h9; decide
  by_cases h10 : kd = 10
  · subst h10; decide
  simp [h2, h4, h5, h6, h7, h8, h9, h10]

end Go.Proofs.YtbobigaifkffoaaDoor
