import Derived.Test.YtbobigaifkffoaaDoorV
import Derived.Test.YtbobigaifkffoaaDoorP1
namespace Go.Proofs.YtbobigaifkffoaaDoor
open Go.RowKit
set_option linter.unusedVariables false
set_option linter.unusedSimpArgs false

theorem bits_xor_u8 (a b : UInt8) : bits .xor .u8 (a.toNat : Int) (b.toNat : Int) = ((a ^^^ b).toNat : Int) := by
  show IntKind.u8.wrap (((BitVec.ofInt 8 (a.toNat : Int) ^^^ BitVec.ofInt 8 (b.toNat : Int) : BitVec 8).toNat : Nat) : Int) = _
  rw [BitVec.ofInt_natCast, BitVec.ofInt_natCast, IntKind.wrap_u8, UInt8.toNat_xor]
  rw [BitVec.toNat_xor, BitVec.toNat_ofNat, BitVec.toNat_ofNat, Nat.mod_eq_of_lt a.toNat_lt, Nat.mod_eq_of_lt b.toNat_lt]
  have : a.toNat ^^^ b.toNat < 2 ^ 8 := Nat.xor_lt_two_pow a.toNat_lt b.toNat_lt
  omega

/-- 'join': three byte strings behind one another, in new memory. -/
theorem join_any (v1 v2 v3 : Value) (L1 L2 L3 : List UInt8) (w : World) (h1 : Rd w v1 L1) (h2 : Rd w v2 L2) (h3 : Rd w v3 L3) (hl : L1.length + L2.length + L3.length ≤ 140737555464192) :
    Calls Tryd.prog 21 #[v1, v2, v3] w fun e w' => ∃ v', e = .returned v' ∧ Own w.heap.size w' v' (L1 ++ L2 ++ L3) ∧ Below w.heap.size w w' := by
  have H1 := Hd.mk h1
  have H2 := Hd.mk h2
  have H3 := Hd.mk h3
  clear h1 h2 h3
  go_enter Tryd.func21, Tryd.ntmps21
  go_wp2_with (first
    | (at_builtin; refine wpList_app rfl (.tmp 8) (.tmp 9) rfl w.heap.size _ _ [] L1 rfl rfl (Own.nil _ _) H1.out (by simp; omega) (Nat.le_refl _) ?_; intro u1 w1 hown hgr; have HO1 := Hd.mk hown; have HB1 : Hd (Below w.heap.size w w1) := ⟨bel_app0 (Below.refl _ _) (Own.nil _ _) hgr⟩; clear hown hgr)
    | (at_builtin; refine wpList_app rfl (.tmp 11) (.tmp 12) rfl w.heap.size _ _ _ L2 rfl rfl HO1.out (H2.out.below HB1.out) (by simp; omega) HB1.out.size ?_; intro u2 w2 hown hgr; have HO2 := Hd.mk hown; have HB2 : Hd (Below w.heap.size w w2) := ⟨bel_app0 HB1.out HO1.out hgr⟩; clear hown hgr)
    | (at_builtin; refine wpList_app rfl (.tmp 14) (.tmp 15) rfl w.heap.size _ _ _ L3 rfl rfl HO2.out (H3.out.below HB2.out) (by simp; omega) HB2.out.size ?_; intro u3 w3 hown hgr; have HO3 := Hd.mk hown; have HB3 : Hd (Below w.heap.size w w3) := ⟨bel_app0 HB2.out HO2.out hgr⟩; clear hown hgr))
  go_ret
  exact ⟨_, rfl, by simpa using HO3.out, HB3.out⟩

theorem join_e (v1 v2 v3 : Value) (L1 L2 L3 J : List UInt8) (w : World) (h1 : Rd w v1 L1) (h2 : Rd w v2 L2) (h3 : Rd w v3 L3) (hl : L1.length + L2.length + L3.length ≤ 140737555464192) (hJ : L1 ++ L2 ++ L3 = J) :
    Calls Tryd.prog 21 #[v1, v2, v3] w fun e w' => ∃ v', e = .returned v' ∧ Own w.heap.size w' v' J ∧ Below w.heap.size w w' := by
  rw [← hJ]; exact join_any v1 v2 v3 L1 L2 L3 w h1 h2 h3 hl

theorem over_any (v1 v2 v3 : Value) (L1 L2 L3 : List UInt8) (w : World) (h1 : Rd w v1 L1) (h2 : Rd w v2 L2) (h3 : Rd w v3 L3) (e2 : L2.length = L1.length) (e3 : L3.length = L1.length) :
    Calls Tryd.prog 22 #[v1, v2, v3] w fun e w' => ∃ v', e = .returned v' ∧ Own w.heap.size w' v' (xor3 L1 L2 L3) ∧ Below w.heap.size w w' := by
  obtain ⟨A1, cap1, rfl, hc1, hn1, hl1, hr1⟩ := h1
  obtain ⟨A2, cap2, rfl, hc2, hn2, hl2, hr2⟩ := h2
  obtain ⟨A3, cap3, rfl, hc3, hn3, hl3, hr3⟩ := h3
  have HR1 := Hd.mk hr1
  have HR2 := Hd.mk hr2
  have HR3 := Hd.mk hr3
  have E2 := Hd.mk e2
  have E3 := Hd.mk e3
  clear hr1 hr2 hr3 hn1 hn2 hn3 hc1 hc2 hc3 hl2 hl3 e2 e3
  go_enter Tryd.func22, Tryd.ntmps22
  go_wp2
  go_loopw [7, 8] (fun v i wr => ∃ k : Nat, i = .int .i64 k ∧ k ≤ L1.length ∧ Hd (Own w.heap.size wr v (xor3 (L1.take k) (L2.take k) (L3.take k))) ∧ Hd (Below w.heap.size w wr))
      (fun _ i _ => L1.length - (intOf i).toNat)
  case atStart => exact ⟨0, rfl, by omega, ⟨Own.nil _ _⟩, ⟨Below.refl _ _⟩⟩
  case round =>
    obtain ⟨k, rfl, hk, HO, HB⟩ := hrel
    by_cases c2 : k < L1.length
    · obtain ⟨ad1, b1, rfl, H1, HC1⟩ := HR1.out.atB k c2
      obtain ⟨ad2, b2, rfl, H2, HC2⟩ := HR2.out.atB k (by rw [E2.out]; exact c2)
      obtain ⟨ad3, b3, rfl, H3, HC3⟩ := HR3.out.atB k (by rw [E3.out]; exact c2)
      have l2 : (k : Int) < (L2.length : Int) := by have := E2.out; omega
      have l3 : (k : Int) < (L3.length : Int) := by have := E3.out; omega
      go_wp2
      obtain ⟨b, hb⟩ : ∃ b : UInt8, b1 ^^^ b2 ^^^ b3 = b := ⟨_, rfl⟩
      have e1 : bits .xor .u8 (bits .xor .u8 (b1.toNat : Int) (b2.toNat : Int)) (b3.toNat : Int) = (b.toNat : Int) := by rw [bits_xor_u8, bits_xor_u8, hb]
      have HX := Hd.mk hb
      have hle : (xor3 (L1.take k) (L2.take k) (L3.take k)).length + [b].length ≤ 140737555464192 := by
        have := xor3_len (L1.take k) (L2.take k) (L3.take k) (by have := E2.out; simp; omega) (by have := E3.out; simp; omega)
        simp at this ⊢
        omega
      have HL := Hd.mk hle
      clear hle hb
      go_region_held3 (fun w' => w'.cell? (ad1.add k) = some (Value.int IntKind.u8 (b1.toNat : Int)) ∧ w'.cell? (ad2.add k) = some (Value.int IntKind.u8 (b2.toNat : Int)) ∧ w'.cell? (ad3.add k) = some (Value.int IntKind.u8 (b3.toNat : Int)))
        (first | exact ⟨H1.out _ HB.out.drew, H2.out _ HB.out.drew, H3.out _ HB.out.drew⟩ | exact ⟨H1.out _ (HB.out.alloc HB.out.size _).drew, H2.out _ (HB.out.alloc HB.out.size _).drew, H3.out _ (HB.out.alloc HB.out.size _).drew⟩ | exact ⟨H1.out _ HB1.out, H2.out _ HB1.out, H3.out _ HB1.out⟩)
        ((refine step_app (by rfl) _ _ (by rfl) w.heap.size _ _ _ [b] (by rfl) (by rfl) ((HO.out.alloc _).drew) ((Rd.new1 _ _ _ rfl).drew) (by simp) HL.out (hb_alloc HB.out (Nat.le_refl _) _) ?_; intro g1 cp1 w1 hown hgr; have HO1 := Hd.mk hown; have HB1 : Hd (Below w.heap.size w w1) := ⟨(HB.out.alloc HB.out.size _).drew.grown hgr (hb_alloc HB.out (Nat.le_refl _) _) (fun g hg => (HO.out.2.lt g hg).1)⟩; clear hown hgr))
      go_wp2
      go_roundw
      case rel => exact ⟨k + 1, by go_num, by omega, ⟨by rw [xor3_snoc _ _ _ _ _ _ _ HC1.out HC2.out HC3.out, HX.out]; exact HO1.out⟩, HB1⟩
      case measure => simp [intOf]; omega
    · go_wp2
      go_ret
      refine ⟨_, rfl, ?_, HB.out⟩
      have h := HO.out
      have := E2.out
      have := E3.out
      rwa [List.take_of_length_le (by omega), List.take_of_length_le (by omega), List.take_of_length_le (by omega)] at h

theorem over_e (v1 v2 v3 : Value) (L1 L2 L3 J : List UInt8) (w : World) (h1 : Rd w v1 L1) (h2 : Rd w v2 L2) (h3 : Rd w v3 L3) (e2 : L2.length = L1.length) (e3 : L3.length = L1.length) (hJ : xor3 L1 L2 L3 = J) :
    Calls Tryd.prog 22 #[v1, v2, v3] w fun e w' => ∃ v', e = .returned v' ∧ Own w.heap.size w' v' J ∧ Below w.heap.size w w' := by
  rw [← hJ]; exact over_any v1 v2 v3 L1 L2 L3 w h1 h2 h3 e2 e3

end Go.Proofs.YtbobigaifkffoaaDoor
