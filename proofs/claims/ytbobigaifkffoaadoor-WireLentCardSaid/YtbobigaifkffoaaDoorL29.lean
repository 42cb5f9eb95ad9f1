/-
  THE WALK of the law's helper: upTo; lists of calls.
-/
import Derived.Test.YtbobigaifkffoaaDoorL28
namespace Go.Proofs.YtbobigaifkffoaaDoor
open Go.RowKit
set_option linter.unusedVariables false
set_option linter.unusedSimpArgs false

/-- One call's data. -/
structure OpD where
  kd : Int
  u : Nat
  i : Int
  at_ : Int
  mx : Int
  B : List UInt8
  Ls : List (List UInt8)
/-- Numbers in their kinds' ranges; bytes of a bound. -/
def OpD.Ok (o : OpD) : Prop :=
  Is64 o.u ∧ (-9223372036854775808 ≤ o.i ∧ o.i ≤ 9223372036854775807) ∧ -9223372036854775808 ≤ o.at_ ∧ o.mx ≤ 9223372036854775807 ∧ o.B.length ≤ 1048576
/-- The cells from 'a' on hold a call's data. -/
def OpAt (w : World) (a : Addr) (o : OpD) : Prop :=
  ∃ vb vp, w.cell? a = some (.int .i64 o.kd) ∧ w.cell? (a.add 1) = some (.int .u64 o.u) ∧ w.cell? (a.add 2) = some (.int .i64 o.i) ∧ w.cell? (a.add 3) = some (.int .i64 o.at_) ∧
    w.cell? (a.add 4) = some (.int .i64 o.mx) ∧ w.cell? (a.add 5) = some vb ∧ w.cell? (a.add 6) = some vp ∧ Rd w vb o.B ∧ RdL w vp o.Ls
/-- A list of calls that reads as os. -/
def RdO (w : World) (v : Value) (os : List OpD) : Prop :=
  ∃ A cap, v = .slice A os.length cap ∧ os.length ≤ 140737555464192 ∧ (0 < os.length → ∃ ad, A = some ad ∧ ∀ j o, os[j]? = some o → o.Ok ∧ OpAt w (ad.add (j * 7)) o)
theorem OpAt.below {w w1 : World} {a : Addr} {o : OpD} (h : OpAt w a o) (hb : Below w.heap.size w w1) : OpAt w1 a o := by
  obtain ⟨vb, vp, h0, h1, h2, h3, h4, h5, h6, h7, h8⟩ := h
  exact ⟨vb, vp, cell_below hb h0, cell_below hb h1, cell_below hb h2, cell_below hb h3, cell_below hb h4, cell_below hb h5, cell_below hb h6, h7.below hb, h8.below hb⟩
theorem RdO.below {w w1 : World} {v : Value} {os : List OpD} (h : RdO w v os) (hb : Below w.heap.size w w1) : RdO w1 v os := by
  obtain ⟨A, cap, e, hl, h⟩ := h
  refine ⟨A, cap, e, hl, fun h0 => ?_⟩
  obtain ⟨ad, e, h⟩ := h h0
  exact ⟨ad, e, fun j o hj => ⟨(h j o hj).1, (h j o hj).2.below hb⟩⟩
theorem RdO.form {w : World} {v : Value} {os : List OpD} (h : RdO w v os) : ∃ A c, v = .slice A os.length c ∧ os.length ≤ 140737555464192 := by
  obtain ⟨A, c, e, hl, _⟩ := h
  exact ⟨A, c, e, hl⟩
theorem RdO.at_ {w : World} {A : Option Addr} {n c : Nat} {os : List OpD} (h : RdO w (.slice A n c) os) (k : Nat) (hk : k < os.length) : ∃ ad o, A = some ad ∧ os[k]? = some o ∧ o.Ok ∧ OpAt w (ad.add (k * 7)) o := by
  obtain ⟨A', c', e, hl, h⟩ := h
  injection e with e1 e2 e3
  subst e1
  obtain ⟨ad, e, h0⟩ := h (by omega)
  have ho : os[k]? = some os[k] := List.getElem?_eq_getElem hk
  exact ⟨ad, os[k], e, ho, (h0 k _ ho).1, (h0 k _ ho).2⟩

theorem cell_at {w : World} {a : Addr} {j : Nat} {v : Option Value} (hj : 0 < j) (h : w.cell? (a.add j) = v) : w.cell? ⟨a.block, a.off + j, none⟩ = v := by
  rw [← h]; unfold Addr.add; rw [if_neg (by omega)]

set_option maxRecDepth 100000 in
set_option maxHeartbeats 1600000 in
/-- 'upTo'. -/
theorem upTo_any (v : Value) (os : List OpD) (lo hi : Int) (w : World) (h : RdO w v os) (hT : TabOk w) :
    Calls Tryd.prog 43 #[v, .int .i64 lo, .int .i64 hi] w fun e w' => e = .returned (.bool true) ∧ Below w.heap.size w w' := by
  obtain ⟨A, cap, rfl, hls⟩ := h.form
  have HR := Hd.mk h
  have HT := Hd.mk hT
  clear h hT
  go_enter Tryd.func43, Tryd.ntmps43
  go_wp2_with fail
  go_loopw [7] (fun i wr => ∃ k : Nat, i = .int .i64 k ∧ k ≤ os.length ∧ Hd (Below w.heap.size w wr)) (fun i _ => os.length - (intOf i).toNat)
  case atStart => exact ⟨0, rfl, by omega, ⟨Below.refl _ _⟩⟩
  case round =>
    obtain ⟨k, rfl, hk, HB⟩ := hrel
    by_cases hlt : k < os.length
    · obtain ⟨ad, o, rfl, ho, hok, hat⟩ := (HR.out.below HB.out).at_ k hlt
      obtain ⟨kd, u, i, at_, mx, B, Ls⟩ := o
      obtain ⟨hu, hii, ha, hm, hB⟩ := hok
      obtain ⟨vb, vp, h0, h1, h2, h3, h4, h5, h6, hb, hp⟩ := hat
      simp only at hu hii ha hm hB h0 h1 h2 h3 h4 h5 h6 hb hp
      obtain ⟨A0, c0, rfl⟩ := hb.form
      obtain ⟨A6, c6, rfl, _⟩ := hp.form
      have HC := Hd.mk (plays_any kd i at_ mx u _ _ B Ls wr hb hp (HT.out.below HB.out) hu hii ha hm (by omega))
      replace h1 := cell_at (by omega) h1
      replace h2 := cell_at (by omega) h2
      replace h3 := cell_at (by omega) h3
      replace h4 := cell_at (by omega) h4
      replace h5 := cell_at (by omega) h5
      replace h6 := cell_at (by omega) h6
      clear ho hb hp hu
      by_cases d1 : lo ≤ kd
      · have b1 : decide (lo ≤ kd) = true := dec_t d1
        by_cases d2 : kd ≤ hi
        · have b2 : decide (kd ≤ hi) = true := dec_t d2
          go_wp2_with fail
          refine HC.out.mono ?_
          rintro e w1 ⟨rfl, hb⟩
          have B1 := Hd.mk (bel_call0 HB.out hb)
          clear hb h0 h1 h2 h3 h4 h5 h6
          go_wp2
          go_roundw
          case rel => exact ⟨k + 1, by go_num, by omega, B1⟩
          case measure => simp [intOf]; omega
        · have b2 : decide (kd ≤ hi) = false := dec_f d2
          go_wp2
          go_roundw
          case rel => exact ⟨k + 1, by go_num, by omega, HB⟩
          case measure => simp [intOf]; omega
      · have b1 : decide (lo ≤ kd) = false := dec_f d1
        go_wp2
        go_roundw
        case rel => exact ⟨k + 1, by go_num, by omega, HB⟩
        case measure => simp [intOf]; omega
    · go_wp2
      go_ret
      exact ⟨rfl, HB.out⟩

end Go.Proofs.YtbobigaifkffoaaDoor
