import Derived.Test.YtbobigaifkffoaaDoorL11
import Derived.Test.YtbobigaifkffoaaDoorP4
import Derived.Test.YtbobigaifkffoaaDoorL3
import Derived.BigRegion
namespace Go.Proofs.YtbobigaifkffoaaDoor
open Go.RowKit
set_option linter.unusedVariables false
set_option linter.unusedSimpArgs false

/-- A row of the call's own that is not empty. -/
theorem Own.at_ {B : Nat} {w : World} {g n c : Nat} {L : List UInt8} (h : Own B w (.slice (some ⟨g, 0, none⟩) n c) L) (i : Nat) (hi : i < L.length) :
    w.cell? ⟨g, i, none⟩ = some (.int .u8 ((L.getD i 0).toNat : Int)) ∧ w.frozen? ⟨g, i, none⟩ = false := by
  have hn : n = L.length := h.rd.slice.1
  subst hn
  constructor
  · rw [h.2.cellAt i (by omega)]
    simp [ebs, eb, hi]
  · exact h.2.frozenAt i
theorem Own.head {B : Nat} {w : World} {v : Value} {L : List UInt8} (h : Own B w v L) (h0 : L ≠ []) : ∃ g c, v = .slice (some ⟨g, 0, none⟩) L.length c ∧ B ≤ g ∧ g < w.heap.size := by
  obtain ⟨g, c, e, h1, h2⟩ := h.2.form (List.length_pos_iff.2 h0)
  exact ⟨g, c, e, h1, h2⟩
theorem Own.stored {B : Nat} {w : World} {g n c : Nat} {L : List UInt8} (h : Own B w (.slice (some ⟨g, 0, none⟩) n c) L) (i : Nat) (x : UInt8) :
    Own B (w.setCell ⟨g, i, none⟩ (.int .u8 (x.toNat : Int))) (.slice (some ⟨g, 0, none⟩) n c) (L.set i x) := by
  have hn : n = L.length := h.rd.slice.1
  subst hn
  refine ⟨by simpa using h.1, ?_⟩
  have h2 := (h.2.stored i (.int .u8 (x.toNat : Int))).1
  rw [List.length_set]
  have e : (ebs L).set i (.int .u8 (x.toNat : Int)) = ebs (L.set i x) := by
    unfold ebs
    rw [List.map_set]
    rfl
  rw [← e]
  exact h2

theorem bits_flip (x : UInt8) (b : Nat) (hb : b < 8) : bits .xor .u8 (x.toNat : Int) ((2 : Int) ^ b % 256) = ((x ^^^ UInt8.ofNat (2 ^ b)).toNat : Int) := by
  have hp : 2 ^ b < 256 := by
    have : 2 ^ b ≤ 2 ^ 7 := Nat.pow_le_pow_right (by omega) (by omega)
    omega
  have h : ((2 : Int) ^ b % 256) = ((UInt8.ofNat (2 ^ b)).toNat : Int) := by
    obtain ⟨q, hq⟩ : ∃ q : Nat, 2 ^ b = q := ⟨_, rfl⟩
    have hi : (2 : Int) ^ b = (q : Int) := by rw [← hq]; simp
    rw [hq] at hp
    rw [hi, hq, u8_val q hp]
    omega
  rw [h, bits_xor_u8]

set_option maxRecDepth 100000 in
set_option maxHeartbeats 4000000 in
theorem turned_any (v : Value) (F : List UInt8) (f mask last : Nat) (w : World) (h : Rd w v F) (hf : f ≤ 1073741824) (hm : mask < 4294967296) (hl : last ≤ F.length) (hF : F ≠ []) (hFl : F.length ≤ 134217728) (R : List UInt8) (any : Bool)
    (hR : trn f last 32 0 mask F false = (R, any)) :
    Calls Tryd.prog 27 #[v, .int .i64 f, .int .u32 mask, .int .i64 last] w fun e w' => ∃ A c, e = .returned (.tuple #[.slice A R.length c, .bool any]) ∧ Own w.heap.size w' (.slice A R.length c) R ∧ Below w.heap.size w w' := by
  obtain ⟨A, cap, rfl⟩ := h.form
  have HC := Hd.mk (part0_e _ F F F.length w h (by omega) (List.take_length))
  have HR := Hd.mk hR
  have HF := Hd.mk hF
  clear h hR hF
  go_enter Tryd.func27, Tryd.ntmps27
  go_wp2_with fail
  refine HC.out.mono ?_
  rintro e w1 ⟨Al, cl, rfl, ho, hb⟩
  obtain ⟨g, c, e, hg1, hg2⟩ := ho.head HF.out
  injection e with e1 e2 e3
  subst e1; subst e3
  have O1 := Hd.mk ho
  have B1 := Hd.mk hb
  clear ho hb HC e2
  go_wp2_with fail
  go_loopw [2, 11, 12] (fun mv av iv wr => ∃ (m i : Nat) (a : Bool) (L : List UInt8), mv = .int .u32 m ∧ av = .bool a ∧ iv = .int .i64 i ∧ i ≤ 32 ∧ m < 4294967296 ∧ L.length ≤ F.length ∧ Hd (L.length = F.length) ∧ Hd (trn f last (32 - i) i m L a = (R, any)) ∧ Hd (Own w.heap.size wr (.slice (some ⟨g, 0, none⟩) F.length cl) L) ∧ Hd (Below w.heap.size w wr)) (fun _ _ i _ => 32 - (intOf i).toNat)
  case atStart => exact ⟨mask, 0, false, F, rfl, rfl, rfl, by omega, hm, by omega, ⟨rfl⟩, HR, O1, B1⟩
  case round =>
    obtain ⟨m, i, a, L, rfl, rfl, rfl, hi, hm', hLle, HLe, HT, HO, HB⟩ := hrel
    by_cases h32 : i < 32
    · by_cases c1 : m % 2 = 1
      · by_cases c2 : (f + i) / 8 < last
        · have d1 : ((m : Int) % 2 == 1) = true := beq_t (by omega)
          have d2 : decide (((f : Int) + i) / 8 < (last : Int)) = true := dec_t (by omega)
          obtain ⟨hcell, hfr⟩ := HO.out.at_ ((f + i) / 8) (by have := HLe.out; omega)
          obtain ⟨x, hx⟩ : ∃ x, L.getD ((f + i) / 8) 0 = x := ⟨_, rfl⟩
          rw [hx] at hcell
          have HX := Hd.mk hx
          have hx256 := x.toNat_lt
          have e1 := bits_flip x ((f + i) % 8) (by omega)
          obtain ⟨y, hy⟩ : ∃ y, x ^^^ UInt8.ofNat (2 ^ ((f + i) % 8)) = y := ⟨_, rfl⟩
          rw [hy] at e1
          have hset : flip1 L (f + i) = L.set ((f + i) / 8) y := by unfold flip1; rw [hx, hy]
          have htr : trn f last (32 - (i + 1)) (i + 1) (m / 2) (L.set ((f + i) / 8) y) true = (R, any) := by
            have h := HT.out
            rw [show 32 - i = (32 - (i + 1)) + 1 by omega] at h
            simp only [trn] at h
            rw [if_pos ⟨c1, c2⟩, hset] at h
            exact h
          have HTr := Hd.mk htr
          clear hx hy hset htr
          have i1 : ((f : Int) + i) / 8 < (F.length : Int) := by omega
          have i2 : 0 ≤ ((f : Int) + i) / 8 := by omega
          go_wp2_with fail
          go_region
          have O2 := Hd.mk ((HO.out.stored ((f + i) / 8) y).drew)
          have B2 := Hd.mk ((HB.out.setCell (p := ⟨g, (f + i) / 8, none⟩) hg1 (.int .u8 (y.toNat : Int))).drew)
          clear hcell hfr e1
          go_wp2
          go_roundw
          case rel => exact ⟨m / 2, i + 1, true, _, by go_num, rfl, by go_num, by omega, by omega, by simpa using hLle, ⟨by simpa using HLe.out⟩, HTr, O2, B2⟩
          case measure => simp [intOf]; omega
        · have d1 : ((m : Int) % 2 == 1) = true := beq_t (by omega)
          have d2 : decide (((f : Int) + i) / 8 < (last : Int)) = false := dec_f (by omega)
          have htr : trn f last (32 - (i + 1)) (i + 1) (m / 2) L a = (R, any) := by
            have h := HT.out
            rw [show 32 - i = (32 - (i + 1)) + 1 by omega] at h
            simp only [trn] at h
            rw [if_neg (by omega)] at h
            exact h
          have HTr := Hd.mk htr
          clear htr
          go_wp2
          go_roundw
          case rel => exact ⟨m / 2, i + 1, a, _, by go_num, rfl, by go_num, by omega, by omega, hLle, HLe, HTr, HO, HB⟩
          case measure => simp [intOf]; omega
      · have d1 : ((m : Int) % 2 == 1) = false := beq_f (by omega)
        have htr : trn f last (32 - (i + 1)) (i + 1) (m / 2) L a = (R, any) := by
          have h := HT.out
          rw [show 32 - i = (32 - (i + 1)) + 1 by omega] at h
          simp only [trn] at h
          rw [if_neg (by omega)] at h
          exact h
        have HTr := Hd.mk htr
        clear htr
        go_wp2
        go_roundw
        case rel => exact ⟨m / 2, i + 1, a, _, by go_num, rfl, by go_num, by omega, by omega, hLle, HLe, HTr, HO, HB⟩
        case measure => simp [intOf]; omega
    · have hT := HT.out
      rw [show 32 - i = 0 by omega] at hT
      simp only [trn, Prod.mk.injEq] at hT
      obtain ⟨rfl, rfl⟩ := hT
      have hLL := HLe.out
      go_wp2
      go_ret2
      refine ⟨some ⟨g, 0, none⟩, cl, ?_, ?_, HB.out⟩
      · rw [hLL]; rfl
      · rw [hLL]; exact HO.out

end Go.Proofs.YtbobigaifkffoaaDoor
