import Derived.Test.YtbobigaifkffoaaDoorV
import Derived.Test.YtbobigaifkffoaaDoorP2
namespace Go.Proofs.YtbobigaifkffoaaDoor
open Go.RowKit
set_option linter.unusedVariables false
set_option linter.unusedSimpArgs false

theorem bits_or_u8_128 (v : Nat) : bits .or .u8 ((v : Int) % 256) 128 = ((v % 128 + 128 : Nat) : Int) := by
  have h1 : BitVec.ofInt 8 ((v : Int) % 256) = BitVec.ofNat 8 v := by
    apply BitVec.eq_of_toNat_eq
    rw [BitVec.toNat_ofInt, BitVec.toNat_ofNat]
    omega
  have h2 : BitVec.ofInt 8 128 = 128#8 := by decide
  show IntKind.u8.wrap (((BitVec.ofInt 8 ((v : Int) % 256) ||| BitVec.ofInt 8 128 : BitVec 8).toNat : Nat) : Int) = _
  rw [h1, h2, IntKind.wrap_u8]
  have h3 : ∀ x : BitVec 8, (x ||| 128#8).toNat = x.toNat % 128 + 128 := by decide
  rw [h3, BitVec.toNat_ofNat]
  omega

set_option maxRecDepth 100000 in
set_option maxHeartbeats 1000000 in
/-- 'wire.Uint'. -/
theorem uint_any (v : Nat) (w : World) (hv : Is64 v) :
    Calls Tryd.prog 33 #[.int .u64 v] w fun e w' => ∃ r, e = .returned r ∧ Own w.heap.size w' r (uenc v) ∧ Below w.heap.size w w' := by
  have HV := Hd.mk hv
  clear hv
  go_enter Tryd.func33, Tryd.ntmps33
  go_wp2_with (at_make; refine wpList_mk0 rfl _ _ rfl w.heap.size _ _ _ 10 rfl rfl (by omega) (by omega) (Nat.le_refl _) ?_; intro w1 hown hgr; have HO1 := Hd.mk hown; have HB1 : Hd (Below w.heap.size w w1) := ⟨bel_grown (Below.refl _ _) hgr⟩; clear hown hgr)
  go_loopw [3, 0] (fun u x wr => ∃ (n : Nat) (P : List UInt8), x = .int .u64 n ∧ Hd (P ++ uenc n = uenc v ∧ Is64 n) ∧ Hd (Own w.heap.size wr u P) ∧ Hd (Below w.heap.size w wr)) (fun _ x _ => (intOf x).toNat)
  case atStart => exact ⟨v, [], rfl, ⟨rfl, HV.out⟩, HO1, HB1⟩
  case round =>
    obtain ⟨n, P, rfl, HP, HO, HB⟩ := hrel
    have hPl : ∀ x : UInt8, P.length + [x].length ≤ 140737555464192 := by
      intro x
      have h1 := congrArg List.length HP.out.1
      have h2 := uenc_len10 HV.out
      have h3 := uenc_pos n
      simp at h1 ⊢
      omega
    have HL := Hd.mk hPl
    clear hPl
    by_cases hlt : n < 128
    · have e1 : ((n : Int) % 256) = n := by omega
      go_wp2_with (at_builtin; refine wpList_app rfl _ _ rfl w.heap.size _ _ _ [UInt8.ofNat n] rfl rfl (HO.out.alloc _) (Rd.new1 _ _ _ (by simp; omega)) (HL.out _) (hb_alloc HB.out (Nat.le_refl _) _) ?_; intro u1 w2 hown hgr; have HO2 := Hd.mk hown; have HB2 : Hd (Below w.heap.size w w2) := ⟨bel_app HB.out HO.out hgr⟩; clear hown hgr)
      go_ret
      refine ⟨_, rfl, ?_, HB2.out⟩
      rw [← HP.out.1, uenc_lo hlt]
      exact HO2.out
    · have e1 := bits_or_u8_128 n
      obtain ⟨m, hm⟩ : ∃ m, n % 128 + 128 = m := ⟨_, rfl⟩
      have hm1 : m < 256 := by omega
      rw [hm] at e1
      have HM := Hd.mk hm
      clear hm
      go_wp2_with (at_builtin; refine wpList_app rfl _ _ rfl w.heap.size _ _ _ [UInt8.ofNat m] rfl rfl (HO.out.alloc _) (Rd.new1 _ _ _ (by simp; omega)) (HL.out _) (hb_alloc HB.out (Nat.le_refl _) _) ?_; intro u1 w2 hown hgr; have HO2 := Hd.mk hown; have HB2 : Hd (Below w.heap.size w w2) := ⟨bel_app HB.out HO.out hgr⟩; clear hown hgr)
      go_roundw
      case rel => exact ⟨n / 128, _, by go_num, ⟨by rw [← HP.out.1, uenc_hi hlt, HM.out]; simp, Is64.mk (by have := HP.out.2.out; omega)⟩, HO2, HB2⟩
      case measure => simp [intOf]; omega

end Go.Proofs.YtbobigaifkffoaaDoor
