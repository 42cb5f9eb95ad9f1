/-
  THE WALKS of the document's own answer (annalsref1): Sum, same.
-/
import Derived.Test.YtbobigaifkffoaaDoorL17
namespace Go.Proofs.YtbobigaifkffoaaDoor
open Go.RowKit
set_option linter.unusedVariables false
set_option linter.unusedSimpArgs false

theorem lsb0 (x : BitVec 32) : x.getLsbD 0 = decide (x.toNat % 2 = 1) := by
  rw [BitVec.getLsbD, Nat.testBit_zero]
theorem bit_one (x : BitVec 32) (h : x.toNat % 2 = 1) : bits .xor .u32 ((x.toNat : Int) / 2) 3988292384 = ((bitStep x).toNat : Int) := by
  have := bits_xor_u32 (x >>> 1) 3988292384#32
  rw [BitVec.toNat_ushiftRight, Nat.shiftRight_eq_div_pow] at this
  rw [show ((x.toNat : Int) / 2) = ((x.toNat / 2 ^ 1 : Nat) : Int) by omega, show (3988292384 : Int) = (((3988292384#32 : BitVec 32).toNat : Nat) : Int) by rfl, this]
  unfold bitStep
  rw [lsb0, h]
  rfl
theorem bit_zero (x : BitVec 32) (h : x.toNat % 2 = 0) : ((x.toNat : Int) / 2) = ((bitStep x).toNat : Int) := by
  unfold bitStep
  rw [lsb0, h]
  simp only [Nat.zero_ne_one, decide_false, Bool.false_eq_true, if_false, BitVec.xor_zero]
  rw [BitVec.toNat_ushiftRight, Nat.shiftRight_eq_div_pow]
  omega
theorem steps_succ (s : Nat) (d : BitVec 32) : steps (s + 1) d = bitStep (steps s d) := by rw [steps_add s 1]; rfl
theorem not_sub (c : BitVec 32) : (4294967295 : Int) - (c.toNat : Int) = ((~~~ c).toNat : Int) := by
  rw [BitVec.toNat_not]
  have := c.isLt
  omega

set_option maxRecDepth 100000 in
set_option maxHeartbeats 1000000 in
/-- 'annalsref1.Sum'. -/
theorem dSum_e (v : Value) (L : List UInt8) (d : BitVec 32) (w : World) (h : Rd w v L) (hd : crc L = d) :
    Calls Tryd.prog 49 #[v] w fun e w' => e = .returned (.int .u32 (d.toNat : Int)) ∧ w = w' := by
  obtain ⟨A, cap, rfl, hc, hn, hl, hr⟩ := h
  have HR := Hd.mk hr
  have HDD := Hd.mk hd
  clear hr hn hd
  go_enter Tryd.func49, Tryd.ntmps49
  go_wp2
  go_loop [3, 4] (fun r i => ∃ (c : BitVec 32) (k : Nat), r = .int .u32 (c.toNat : Int) ∧ i = .int .i64 k ∧ k ≤ L.length ∧ Hd (reg (~~~ 0#32) (L.take k) = c)) (fun _ i => L.length - (intOf i).toNat)
  case atStart => exact ⟨~~~ 0#32, 0, rfl, rfl, by omega, ⟨rfl⟩⟩
  case round =>
    obtain ⟨c, k, rfl, rfl, hk, HC⟩ := hrel
    by_cases hlt : k < L.length
    · obtain ⟨ad, b, rfl, hcell, HB⟩ := HR.out.at_ k hlt
      have e1 := bits_xor_byte c b
      obtain ⟨g, hg⟩ : ∃ g, c ^^^ BitVec.ofNat 32 b.toNat = g := ⟨_, rfl⟩
      rw [hg] at e1
      have HG := Hd.mk hg
      clear hg
      have b256 := b.toNat_lt
      go_wp2
      go_loop [3, 5] (fun r i => ∃ (x : BitVec 32) (s : Nat), r = .int .u32 (x.toNat : Int) ∧ i = .int .i64 s ∧ s ≤ 8 ∧ Hd (steps s g = x)) (fun _ i => 8 - (intOf i).toNat)
      case atStart => exact ⟨g, 0, rfl, rfl, by omega, ⟨rfl⟩⟩
      case round =>
        clear e1
        obtain ⟨x, s, rfl, rfl, hs, HS⟩ := hrel
        have hx32 := x.isLt
        by_cases hs8 : s < 8
        · by_cases hbit : x.toNat % 2 = 1
          · have e2 := bit_one x hbit
            have e3 : (((x.toNat : Int) % 2) == 1) = true := beq_t (by omega)
            clear hbit
            go_wp2
            go_round
            case rel => exact ⟨bitStep x, s + 1, by go_num, by go_num, by omega, ⟨by rw [steps_succ, HS.out]⟩⟩
            case measure => simp [intOf]; omega
          · have e2 := bit_zero x (by omega)
            have e3 : (((x.toNat : Int) % 2) == 1) = false := beq_f (by omega)
            clear hbit
            go_wp2
            go_round
            case rel => exact ⟨bitStep x, s + 1, (by first | rfl | go_num), by go_num, by omega, ⟨by rw [steps_succ, HS.out]⟩⟩
            case measure => simp [intOf]; omega
        · have hx : byteStep c b = x := by
            rw [← HS.out, show s = 8 by omega, ← HG.out]; rfl
          have HX := Hd.mk hx
          clear hx
          go_wp2
          go_round
          case rel => exact ⟨x, k + 1, rfl, by go_num, by omega, ⟨by rw [take_snoc HB.out, reg_snoc, HC.out, HX.out]⟩⟩
          case measure => simp [intOf]; omega
    · have e4 := not_sub c
      have hcd : ~~~ c = d := by
        rw [← HDD.out, ← HC.out, List.take_of_length_le (by omega)]; rfl
      rw [hcd] at e4
      have c32 := c.isLt
      clear hcd
      go_wp2
      go_ret
      exact ⟨rfl, rfl⟩

end Go.Proofs.YtbobigaifkffoaaDoor
