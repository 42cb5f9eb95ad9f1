/-
  THE WALKS of the document's own answer (annalsref1): Uint, Int, Bytes.
-/
import Derived.Test.YtbobigaifkffoaaDoorWalk8
namespace Go.Proofs.YtbobigaifkffoaaDoor
open Go.RowKit
set_option linter.unusedVariables false
set_option linter.unusedSimpArgs false

set_option maxRecDepth 100000 in
set_option maxHeartbeats 1000000 in
/-- 'annalsref1.Uint'. -/
theorem dUint_any (v : Nat) (w : World) (hv : Is64 v) :
    Calls Tryd.prog 55 #[.int .u64 v] w fun e w' => ∃ r, e = .returned r ∧ Own w.heap.size w' r (uenc v) ∧ Below w.heap.size w w' := by
  have HV := Hd.mk hv
  clear hv
  go_enter Tryd.func55, Tryd.ntmps55
  go_wp2_with fail
  go_loopw [3, 0] (fun u x wr => ∃ (n : Nat) (P : List UInt8), x = .int .u64 n ∧ Hd (P ++ uenc n = uenc v ∧ Is64 n) ∧ Hd (Own w.heap.size wr u P) ∧ Hd (Below w.heap.size w wr)) (fun _ x _ => (intOf x).toNat)
  case atStart => exact ⟨v, [], rfl, ⟨rfl, HV.out⟩, ⟨Own.nil _ _⟩, ⟨Below.refl _ _⟩⟩
  case round =>
    obtain ⟨n, P, rfl, HP, HO, HB⟩ := hrel
    have hPl : ∀ x : UInt8, P.length + [x].length ≤ 140737555464192 := by
      intro x
      have h1 := congrArg List.length HP.out.1
      have h2 := uenc_len10 HV.out
      have h3 := uenc_pos n
      simp at h1 ⊢
      omega
    have HL := Hd.mk hPl
    clear hPl
    by_cases hlt : n < 128
    · have e1 : ((n : Int) % 256) = n := by omega
      go_wp2_with (at_builtin; refine wpList_app rfl _ _ rfl w.heap.size _ _ _ [UInt8.ofNat n] rfl rfl (HO.out.alloc _) (Rd.new1 _ _ _ (by simp; omega)) (HL.out _) (hb_alloc HB.out (Nat.le_refl _) _) ?_; intro u1 w2 hown hgr; have HO2 := Hd.mk hown; have HB2 : Hd (Below w.heap.size w w2) := ⟨bel_app HB.out HO.out hgr⟩; clear hown hgr)
      go_ret
      refine ⟨_, rfl, ?_, HB2.out⟩
      rw [← HP.out.1, uenc_lo hlt]
      exact HO2.out
    · obtain ⟨m, hm⟩ : ∃ m, n % 128 + 128 = m := ⟨_, rfl⟩
      have hm1 : m < 256 := by omega
      have e1 : ((128 : Int) + (n : Int) % 128) = (m : Int) := by omega
      have e2 : IntKind.u64.wrap ((n : Int) / 128) = (n : Int) / 128 := by have := HP.out.2.out; rw [IntKind.wrap_u64]; omega
      have HM := Hd.mk hm
      clear hm
      go_wp2_with (at_builtin; refine wpList_app rfl _ _ rfl w.heap.size _ _ _ [UInt8.ofNat m] rfl rfl (HO.out.alloc _) (Rd.new1 _ _ _ (by simp; omega)) (HL.out _) (hb_alloc HB.out (Nat.le_refl _) _) ?_; intro u1 w2 hown hgr; have HO2 := Hd.mk hown; have HB2 : Hd (Below w.heap.size w w2) := ⟨bel_app HB.out HO.out hgr⟩; clear hown hgr)
      go_roundw
      case rel => exact ⟨n / 128, _, by go_num, ⟨by rw [← HP.out.1, uenc_hi hlt, HM.out]; simp, Is64.mk (by have := HP.out.2.out; omega)⟩, HO2, HB2⟩
      case measure => simp [intOf]; omega

theorem dUint_e (v : Nat) (F : List UInt8) (w : World) (hv : Is64 v) (hF : uenc v = F) :
    Calls Tryd.prog 55 #[.int .u64 v] w fun e w' => ∃ A c, e = .returned (.slice A F.length c) ∧ Own w.heap.size w' (.slice A F.length c) F ∧ Below w.heap.size w w' := by
  refine (dUint_any v w hv).mono ?_
  rintro e w' ⟨r, rfl, ho, hb⟩
  rw [hF] at ho
  obtain ⟨A, c, rfl⟩ := ho.rd.form
  exact ⟨A, c, rfl, ho, hb⟩

set_option maxHeartbeats 600000 in
/-- 'annalsref1.Int'. -/
theorem dInt_e (v : Int) (F : List UInt8) (w : World) (hv : -9223372036854775808 ≤ v ∧ v ≤ 9223372036854775807) (hF : uenc (zig v) = F) :
    Calls Tryd.prog 61 #[.int .i64 v] w fun e w' => ∃ A c, e = .returned (.slice A F.length c) ∧ Own w.heap.size w' (.slice A F.length c) F ∧ Below w.heap.size w w' := by
  have h64 := zig_64 hv
  obtain ⟨m, hm⟩ : ∃ m, zig v = m := ⟨_, rfl⟩
  rw [hm] at hF h64
  have C := dUint_e m F w h64 hF
  unfold zig at hm
  by_cases h0 : 0 ≤ v
  · rw [if_pos h0] at hm
    have d1 : decide (0 ≤ v) = true := dec_t h0
    have e1 : IntKind.u64.wrap v = v := by rw [IntKind.wrap_u64]; omega
    have e2 : v * 2 = (m : Int) := by omega
    have m1 : (m : Int) < 18446744073709551616 := by have := h64.out; omega
    clear hm h64 hF
    go_enter Tryd.func61, Tryd.ntmps61
    go_wp2_with fail
    refine C.mono ?_
    rintro e w' ⟨A, c, rfl, ho, hb⟩
    have O := Hd.mk ho
    have B := Hd.mk hb
    clear ho hb
    go_wp2
    go_ret
    exact ⟨A, c, rfl, O.out, B.out⟩
  · rw [if_neg h0] at hm
    have d1 : decide (0 ≤ v) = false := dec_f h0
    obtain ⟨k, hk⟩ : ∃ k : Nat, -(v + 1) = (k : Int) := ⟨(-(v + 1)).toNat, by omega⟩
    obtain rfl : v = -(k : Int) - 1 := by omega
    have e2 : (k : Int) * 2 + 1 = (m : Int) := by omega
    have k1 : (k : Int) ≤ 9223372036854775807 := by omega
    clear hm h64 hF hk
    go_enter Tryd.func61, Tryd.ntmps61
    go_wp2_with fail
    refine C.mono ?_
    rintro e w' ⟨A, c, rfl, ho, hb⟩
    have O := Hd.mk ho
    have B := Hd.mk hb
    clear ho hb
    go_wp2
    go_ret
    exact ⟨A, c, rfl, O.out, B.out⟩

set_option maxRecDepth 100000 in
set_option maxHeartbeats 1000000 in
/-- 'annalsref1.Part', within the bytes. -/
theorem dPart_e (v : Value) (L X : List UInt8) (lo hi : Nat) (w : World) (h : Rd w v L) (hlo : lo ≤ 140737555464192) (hn : hi ≤ L.length) (hX : (L.take hi).drop lo = X) :
    Calls Tryd.prog 45 #[v, .int .i64 lo, .int .i64 hi] w fun e w' => ∃ A c, e = .returned (.slice A X.length c) ∧ Own w.heap.size w' (.slice A X.length c) X ∧ Below w.heap.size w w' := by
  obtain ⟨A, cap, rfl, hc, hn', hl, hr⟩ := h
  have HR := Hd.mk hr
  have HX : Hd (cutL L lo hi = X) := ⟨hX⟩
  clear hr hn' hX
  go_enter Tryd.func45, Tryd.ntmps45
  go_wp2_with fail
  go_loopw [7, 8] (fun v i wr => ∃ k : Nat, lo ≤ k ∧ i = .int .i64 k ∧ (k ≤ hi ∨ k = lo) ∧ Hd (Own w.heap.size wr v (cutL L lo k)) ∧ Hd (Below w.heap.size w wr)) (fun _ i _ => hi - (intOf i).toNat)
  case atStart => exact ⟨lo, by omega, rfl, by omega, ⟨by rw [show cutL L lo lo = [] from List.eq_nil_of_length_eq_zero (by rw [cutL_len]; omega)]; exact Own.nil _ _⟩, ⟨Below.refl _ _⟩⟩
  case round =>
    obtain ⟨k, hk0, rfl, hk, HO, HB⟩ := hrel
    by_cases c1 : k < hi
    · obtain ⟨ad, c, rfl, hcell, HC⟩ := (HR.out.below HB.out).at_ k (by omega)
      have hle : (cutL L lo k).length + [c].length ≤ 140737555464192 := by rw [cutL_len]; simp; omega
      have HL := Hd.mk hle
      have c2 : k < L.length := by omega
      clear hle
      go_wp2_with (at_builtin; refine wpList_app rfl _ _ rfl w.heap.size _ _ _ [c] rfl rfl (HO.out.alloc _) (Rd.new1 _ _ _ rfl) HL.out (hb_alloc HB.out (Nat.le_refl _) _) ?_; intro v' w1 hown hgr; have HO1 := Hd.mk hown; have HB1 := Hd.mk (bel_app HB.out HO.out hgr); clear hown hgr)
      go_roundw
      case rel => exact ⟨k + 1, by omega, by go_num, by omega, ⟨by rw [cutL_snoc _ _ _ _ hk0 HC.out]; exact HO1.out⟩, HB1⟩
      case measure => simp [intOf]; omega
    · have hke : cutL L lo k = X := by
        rw [← HX.out]
        rcases hk with hk | hk
        · rw [show k = hi by omega]
        · subst hk
          rw [show cutL L k k = [] from List.eq_nil_of_length_eq_zero (by rw [cutL_len]; omega), show cutL L k hi = [] from List.eq_nil_of_length_eq_zero (by rw [cutL_len]; omega)]
      rw [hke] at HO
      obtain ⟨A2, c2, rfl⟩ := HO.out.rd.form
      clear hke
      go_wp2
      go_ret
      exact ⟨A2, c2, rfl, HO.out, HB.out⟩

/-- 'annalsref1.Bytes'. -/
theorem dBytes_e (v : Value) (L F : List UInt8) (w : World) (h : Rd w v L) (hl : L.length ≤ 140737488355328) (hF : lenB L = F) :
    Calls Tryd.prog 48 #[v] w fun e w' => ∃ A c, e = .returned (.slice A F.length c) ∧ Own w.heap.size w' (.slice A F.length c) F ∧ Below w.heap.size w w' := by
  obtain ⟨A, c, rfl⟩ := h.form
  have HR := Hd.mk h
  have h64 : Is64 L.length := Is64.mk (by omega)
  have C := Hd.mk (dUint_e L.length (uenc L.length) w h64 rfl)
  have hl10 := uenc_len10 h64
  have hF := Hd.mk hF
  have e1 : ((L.length : Int) % 18446744073709551616) = L.length := by omega
  clear h h64
  go_enter Tryd.func48, Tryd.ntmps48
  obtain ⟨U, hU⟩ : ∃ U, uenc L.length = U := ⟨_, rfl⟩
  rw [hU] at C hl10
  have HU := Hd.mk hU
  clear hU
  have HL : Hd (U.length + L.length ≤ 140737555464192) := ⟨by omega⟩
  go_wp2_with fail
  refine C.out.mono ?_
  rintro e w1 ⟨A1, c1, rfl, ho, hb⟩
  have O1 := Hd.mk ho
  have B1 := Hd.mk hb
  have R1 := Hd.mk (HR.out.below hb)
  clear ho hb C
  go_wp2_with (at_builtin; refine wpList_app rfl (.tmp 8) (.tmp 9) rfl w.heap.size _ _ _ L rfl rfl O1.out R1.out HL.out B1.out.size ?_; intro u2 w2 hown hgr; have O2 := Hd.mk hown; have B2 := Hd.mk (bel_app0 B1.out O1.out hgr); clear hown hgr)
  go_ret
  have hO := O2.out
  rw [← HU.out] at hO
  have hO : Own w.heap.size w2 u2 (lenB L) := hO
  rw [hF.out] at hO
  obtain ⟨A2, c2, rfl⟩ := hO.rd.form
  exact ⟨A2, c2, rfl, hO, B2.out⟩

set_option maxRecDepth 100000 in
set_option maxHeartbeats 1000000 in
/-- 'annalsref1.Join'. -/
theorem dJoin_e (v : Value) (Ls : List (List UInt8)) (M : List UInt8) (w : World) (h : RdL w v Ls) (hM : Ls.flatten = M) (hl : M.length ≤ 140737555464192) :
    Calls Tryd.prog 59 #[v] w fun e w' => ∃ A c, e = .returned (.slice A M.length c) ∧ Own w.heap.size w' (.slice A M.length c) M ∧ Below w.heap.size w w' := by
  obtain ⟨A, cap, rfl, hls⟩ := h.form
  have HR := Hd.mk h
  have HM := Hd.mk hM
  clear h hM
  go_enter Tryd.func59, Tryd.ntmps59
  go_wp2_with fail
  go_loopw [3, 4] (fun o i wr => ∃ k : Nat, i = .int .i64 k ∧ k ≤ Ls.length ∧ Hd (Own w.heap.size wr o (Ls.take k).flatten) ∧ Hd (Below w.heap.size w wr)) (fun _ i _ => Ls.length - (intOf i).toNat)
  case atStart => exact ⟨0, rfl, by omega, ⟨by simpa using Own.nil _ _⟩, ⟨Below.refl _ _⟩⟩
  case round =>
    obtain ⟨q, rfl, hq, HO, HB⟩ := hrel
    by_cases hlt2 : q < Ls.length
    · obtain ⟨ad, A1, c1, L1, rfl, hcell, hl1, HL1, HR1⟩ := (HR.out.below HB.out).at_ q hlt2
      have HF := Hd.mk (flat_snoc Ls q L1 HL1.out)
      have hLL : Hd ((Ls.take q).flatten.length + L1.length ≤ 140737555464192) := ⟨by
        have h1 := flat_le Ls (q + 1)
        rw [HF.out, HM.out, List.length_append] at h1
        omega⟩
      go_wp2_with (at_builtin; refine wpList_app rfl _ _ rfl w.heap.size _ _ _ L1 rfl rfl HO.out HR1.out hLL.out HB.out.size ?_; intro u3 w3 hown hgr; have O3 := Hd.mk hown; have B3 := Hd.mk (bel_app0 HB.out HO.out hgr); clear hown hgr)
      go_roundw
      case rel => exact ⟨q + 1, by go_num, by omega, ⟨by rw [HF.out]; exact O3.out⟩, B3⟩
      case measure => simp [intOf]; omega
    · have hall : (Ls.take q).flatten = M := by rw [List.take_of_length_le (by omega), HM.out]
      rw [hall] at HO
      obtain ⟨A2, c2, rfl⟩ := HO.out.rd.form
      clear hall
      go_wp2
      go_ret
      exact ⟨A2, c2, rfl, HO.out, HB.out⟩

end Go.Proofs.YtbobigaifkffoaaDoor
