import Derived.Test.YtbobigaifkffoaaDoorV
import Derived.Test.YtbobigaifkffoaaDoorP1
namespace Go.Proofs.YtbobigaifkffoaaDoor
open Go.RowKit
set_option linter.unusedVariables false
set_option linter.unusedSimpArgs false

/-- The package's table: block 0 .. holds the sixteen numbers. -/
def TabOk (w : World) : Prop := ∀ i, i < 16 → w.cell? ⟨0, i, none⟩ = some (.int .u32 ((tbl.getD i 0 : Nat) : Int))
theorem TabOk.below {w w1 : World} (h : TabOk w) (hb : Below w.heap.size w w1) : TabOk w1 := fun i hi => cell_below hb (h i hi)

theorem bits_xor_u32 (a b : BitVec 32) : bits .xor .u32 (a.toNat : Int) (b.toNat : Int) = ((a ^^^ b).toNat : Int) := by
  have h1 : BitVec.ofInt 32 (a.toNat : Int) = a := by rw [BitVec.ofInt_natCast]; simp
  have h2 : BitVec.ofInt 32 (b.toNat : Int) = b := by rw [BitVec.ofInt_natCast]; simp
  show IntKind.u32.wrap (((BitVec.ofInt 32 (a.toNat : Int) ^^^ BitVec.ofInt 32 (b.toNat : Int) : BitVec 32).toNat : Nat) : Int) = _
  rw [h1, h2, IntKind.wrap_u32]
  have := (a ^^^ b).isLt
  omega
theorem bits_xor_byte (a : BitVec 32) (b : UInt8) : bits .xor .u32 (a.toNat : Int) (b.toNat : Int) = ((a ^^^ BitVec.ofNat 32 b.toNat).toNat : Int) := by
  rw [← bits_xor_u32]
  congr 2
  rw [BitVec.toNat_ofNat, Nat.mod_eq_of_lt]
  have := b.toNat_lt
  omega
theorem bits_and15 (a : BitVec 32) : bits .and .u32 (a.toNat : Int) 15 = ((a.toNat % 16 : Nat) : Int) := by
  have h1 : BitVec.ofInt 32 (a.toNat : Int) = a := by rw [BitVec.ofInt_natCast]; simp
  have h2 : BitVec.ofInt 32 15 = 15#32 := by decide
  show IntKind.u32.wrap (((BitVec.ofInt 32 (a.toNat : Int) &&& BitVec.ofInt 32 15 : BitVec 32).toNat : Nat) : Int) = _
  rw [h1, h2, IntKind.wrap_u32, BitVec.toNat_and, show (15#32).toNat = 2 ^ 4 - 1 from rfl, Nat.and_two_pow_sub_one_eq_mod]
  omega
theorem bits_not32 (a : BitVec 32) : bits .xor .u32 IntKind.u32.max (a.toNat : Int) = ((~~~ a).toNat : Int) := by
  rw [show IntKind.u32.max = 4294967295 from rfl]
  have := bits_xor_u32 (~~~ 0#32) a
  rw [show (((~~~ 0#32 : BitVec 32).toNat : Nat) : Int) = 4294967295 by decide] at this
  rw [this]
  rw [show ~~~ 0#32 ^^^ a = ~~~ a by rw [show ~~~ 0#32 = BitVec.allOnes 32 from rfl, BitVec.allOnes_xor]]
theorem bits_nib (c : BitVec 32) : bits .xor .u32 ((tbl.getD (c.toNat % 16) 0 : Nat) : Int) ((c.toNat : Int) / 16) = ((nib c).toNat : Int) := by
  have := bits_xor_u32 (BitVec.ofNat 32 (tbl.getD (c.toNat % 16) 0)) (c >>> 4)
  rw [BitVec.toNat_ofNat, Nat.mod_eq_of_lt (tbl_lt _), BitVec.toNat_ushiftRight, Nat.shiftRight_eq_div_pow] at this
  rw [show ((c.toNat : Int) / 16) = ((c.toNat / 2 ^ 4 : Nat) : Int) by omega, this]
  rfl

theorem sum_round (c : BitVec 32) (b : UInt8) : nib (nib (c ^^^ BitVec.ofNat 32 b.toNat)) = byteStep c b := (byteStep_nib c b).symm

set_option maxHeartbeats 1000000 in
/-- 'wire.Sum': the sum of all parts, one behind the other. -/
theorem sum_any (v : Value) (Ls : List (List UInt8)) (w : World) (h : RdL w v Ls) (hT : TabOk w) :
    Calls Tryd.prog 20 #[v] w fun e w' => e = .returned (.int .u32 ((crc Ls.flatten).toNat : Int)) ∧ w = w' := by
  obtain ⟨A, cap, rfl, hc, hn, hl, hr⟩ := h
  have HR := Hd.mk hr
  have HN := Hd.mk hn
  have HT := Hd.mk hT
  clear hr hn hT
  go_enter Tryd.func20, Tryd.ntmps20
  go_wp2
  go_loop [3, 10] (fun c i => ∃ (cv : BitVec 32) (k : Nat), k ≤ Ls.length ∧ i = .int .i64 k ∧ c = .int .u32 (cv.toNat : Int) ∧ Hd (cv = reg (~~~ 0#32) (Ls.take k).flatten)) (fun c i => Ls.length - (intOf i).toNat)
  case atStart => exact ⟨~~~ 0#32, 0, by omega, rfl, rfl, ⟨by simp [reg]⟩⟩
  case round =>
    obtain ⟨cv, k, hk, rfl, rfl, HC⟩ := hrel
    by_cases hlt : k < Ls.length
    · obtain ⟨ad, rfl, hcs⟩ := HR.out (by omega)
      obtain ⟨sv, hcell, A1, cap1, rfl, hc1, hn1, hl1, hr1⟩ := hcs k hlt
      obtain ⟨L1, hL1⟩ : ∃ L1, Ls.getD k [] = L1 := ⟨_, rfl⟩
      rw [hL1] at hcell hl1 hr1 hc1
      have HL1 := Hd.mk hL1
      have HR1 := Hd.mk hr1
      clear hcs hn1 hr1 hL1
      go_wp2
      go_loop [3, 16] (fun c i => ∃ (cw : BitVec 32) (j : Nat), j ≤ L1.length ∧ i = .int .i64 j ∧ c = .int .u32 (cw.toNat : Int) ∧ Hd (cw = reg cv (L1.take j))) (fun c i => L1.length - (intOf i).toNat)
      case atStart => exact ⟨cv, 0, by omega, rfl, rfl, ⟨by simp [reg]⟩⟩
      case round =>
        obtain ⟨cw, j, hj, rfl, rfl, HW⟩ := hrel
        by_cases hjl : j < L1.length
        · obtain ⟨ad1, b, rfl, hcell1, HB⟩ := HR1.out.at_ j hjl
          have hb := b.toNat_lt
          obtain ⟨c1, hc1'⟩ : ∃ c1, cw ^^^ BitVec.ofNat 32 b.toNat = c1 := ⟨_, rfl⟩
          have e1 := bits_xor_byte cw b
          rw [hc1'] at e1
          have e2 := bits_and15 c1
          have ht1 := HT.out (c1.toNat % 16) (Nat.mod_lt _ (by decide))
          have e3 := bits_nib c1
          obtain ⟨i1, hi1⟩ : ∃ i1, c1.toNat % 16 = i1 := ⟨_, rfl⟩
          have hi1' : i1 < 16 := by omega
          rw [hi1] at e2 ht1 e3
          obtain ⟨t1, ht1'⟩ : ∃ t1, tbl.getD i1 0 = t1 := ⟨_, rfl⟩
          rw [ht1'] at ht1 e3
          obtain ⟨c2, hc2'⟩ : ∃ c2, nib c1 = c2 := ⟨_, rfl⟩
          rw [hc2'] at e3
          have f2 := bits_and15 c2
          have ht2 := HT.out (c2.toNat % 16) (Nat.mod_lt _ (by decide))
          have f3 := bits_nib c2
          obtain ⟨i2, hi2⟩ : ∃ i2, c2.toNat % 16 = i2 := ⟨_, rfl⟩
          have hi2' : i2 < 16 := by omega
          rw [hi2] at f2 ht2 f3
          obtain ⟨t2, ht2'⟩ : ∃ t2, tbl.getD i2 0 = t2 := ⟨_, rfl⟩
          rw [ht2'] at ht2 f3
          obtain ⟨c3, hc3'⟩ : ∃ c3, nib c2 = c3 := ⟨_, rfl⟩
          rw [hc3'] at f3
          have HE : Hd (byteStep cw b = c3) := ⟨by rw [← sum_round, hc1', hc2', hc3']⟩
          clear hc1' hc2' hc3' hi1 hi2 ht1' ht2'
          go_wp2
          go_round
          case rel => exact ⟨c3, j + 1, by omega, by go_num, rfl, ⟨by
            obtain ⟨hb', e⟩ := List.getElem?_eq_some_iff.1 HB.out
            rw [List.take_succ_eq_append_getElem hb', reg_snoc, e, ← HW.out, HE.out]⟩⟩
          case measure => simp [intOf]; omega
        · go_wp2
          go_round
          case rel => exact ⟨cw, k + 1, by omega, by go_num, rfl, ⟨by
            have h1 := HW.out
            rw [List.take_of_length_le (by omega), HC.out, ← HL1.out] at h1
            rw [h1, List.take_succ_eq_append_getElem hlt, List.flatten_append, reg_append]
            simp [List.getD_eq_getElem?_getD, hlt]⟩⟩
          case measure => simp [intOf]; omega
    · have e1 := bits_not32 cv
      have e0 : IntKind.u32.signed = false := rfl
      go_wp2
      go_ret
      refine ⟨ret_int ?_, rfl⟩
      have h1 := HC.out
      rw [List.take_of_length_le (by omega)] at h1
      rw [h1]
      unfold crc
      rw [BitVec.toNat_not]

/-- The sum, the world left open. -/
theorem sum_e (v : Value) (Ls : List (List UInt8)) (d : BitVec 32) (w : World) (h : RdL w v Ls) (hT : TabOk w) (hd : crc Ls.flatten = d) :
    Calls Tryd.prog 20 #[v] w fun e w' => e = .returned (.int .u32 (d.toNat : Int)) ∧ Below w.heap.size w w' := by
  refine (sum_any v Ls w h hT).mono ?_
  rintro e w' ⟨rfl, rfl⟩
  exact ⟨by rw [hd], Below.refl _ _⟩
theorem TabOk.alloc {w : World} (h : TabOk w) (o : Obj) : TabOk (w.alloc o) := h.below ((Below.refl _ _).alloc (Nat.le_refl _) _)

end Go.Proofs.YtbobigaifkffoaaDoor
