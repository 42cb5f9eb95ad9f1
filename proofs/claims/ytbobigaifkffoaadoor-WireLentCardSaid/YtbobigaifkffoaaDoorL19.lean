/-
  THE WALKS of the document's own answer (annalsref1): same, Frame.
-/
import Derived.Test.YtbobigaifkffoaaDoorL18
namespace Go.Proofs.YtbobigaifkffoaaDoor
open Go.RowKit
set_option linter.unusedVariables false
set_option linter.unusedSimpArgs false

set_option maxRecDepth 100000 in
set_option maxHeartbeats 600000 in
/-- 'annalsref1.same': the bytes from a place on. -/
theorem dSame_e (v1 v2 : Value) (L M : List UInt8) (a : Nat) (r : Bool) (w : World) (h1 : Rd w v1 L) (h2 : Rd w v2 M) (ha : a + M.length ≤ L.length) (hr : decide ((L.drop a).take M.length = M) = r) :
    Calls Tryd.prog 63 #[v1, .int .i64 a, v2] w fun e w' => e = .returned (.bool r) ∧ Below w.heap.size w w' := by
  obtain ⟨A1, cap1, rfl, hc1, hn1, hl1, hr1⟩ := h1
  obtain ⟨A2, cap2, rfl, hc2, hn2, hl2, hr2⟩ := h2
  have HR1 := Hd.mk hr1
  have HR2 := Hd.mk hr2
  obtain ⟨K, hK⟩ : ∃ K, (L.drop a).take M.length = K := ⟨_, rfl⟩
  rw [hK] at hr
  have hKl : K.length = M.length := by rw [← hK, List.length_take, List.length_drop]; omega
  have HK : Hd (∀ j c, j < M.length → L[a + j]? = some c → K[j]? = some c) := ⟨fun j c hj hc => by
    rw [← hK, List.getElem?_take, if_pos hj, List.getElem?_drop]; exact hc⟩
  have HKl := Hd.mk hKl
  have HQ := Hd.mk hr
  clear hr1 hr2 hn1 hn2 hr hc1 hc2 hK hKl
  go_enter Tryd.func63, Tryd.ntmps63
  go_wp2
  go_loopw [7] (fun i wr => ∃ k : Nat, i = .int .i64 k ∧ k ≤ M.length ∧ Hd (K.take k = M.take k) ∧ Hd (∃ a, wr = w.drewN a)) (fun i _ => M.length - (intOf i).toNat)
  case atStart => exact ⟨0, rfl, by omega, ⟨rfl⟩, ⟨⟨0, rfl⟩⟩⟩
  case round =>
    obtain ⟨k, rfl, hk, HE, HW⟩ := hrel
    have HB : Hd (Below w.heap.size w wr) := ⟨by obtain ⟨a, rfl⟩ := HW.out; exact bel_drewN (Below.refl _ _) a⟩
    by_cases hlt : k < M.length
    · obtain ⟨ad1, x, rfl, hcell1, H1⟩ := (HR1.out.below HB.out).at_ (a + k) (by omega)
      obtain ⟨ad2, y, rfl, hcell2, H2⟩ := (HR2.out.below HB.out).at_ k hlt
      have H1' := Hd.mk (HK.out k x hlt H1.out)
      have i1 : a + k < L.length := by omega
      have i2 : (k : Int) < M.length := by omega
      by_cases hab : x = y
      · subst hab
        go_wp2_with fail
        go_quiet (fail)
        have HB2 : Hd (∃ a, wr.drewN nq = w.drewN a) := ⟨by obtain ⟨a, rfl⟩ := HW.out; exact ⟨a + nq, World.drewN_drewN ..⟩⟩
        clear hcell1 hcell2
        go_wp2
        go_roundw
        case rel => exact ⟨k + 1, by go_num, by omega, ⟨take_eq_succ HE.out H1'.out H2.out⟩, HB2⟩
        case measure => simp [intOf]; omega
      · obtain rfl : r = false := by rw [← HQ.out]; exact decide_eq_false (list_ne H1'.out H2.out hab)
        have hne : x.toNat ≠ y.toNat := fun h => hab (UInt8.toNat_inj.1 h)
        rcases (show x.toNat < y.toNat ∨ y.toNat < x.toNat by omega) with hne' | hne'
        all_goals
          clear hab hne
          go_wp2_with fail
          go_quiet (fail)
          have HB2 : Hd (∃ a, wr.drewN nq = w.drewN a) := ⟨by obtain ⟨a, rfl⟩ := HW.out; exact ⟨a + nq, World.drewN_drewN ..⟩⟩
          clear hcell1 hcell2
          go_wp2
          go_ret
          refine ⟨rfl, ?_⟩
          obtain ⟨n, hn⟩ := HB2.out
          rw [hn]
          exact bel_drewN (Below.refl _ _) n
    · obtain rfl : r = true := by
        rw [← HQ.out]
        refine decide_eq_true ?_
        have := HE.out
        have hkl := HKl.out
        rwa [List.take_of_length_le (by omega), List.take_of_length_le (by omega)] at this
      go_wp2
      go_ret
      exact ⟨rfl, HB.out⟩

theorem le4_len (d : BitVec 32) : (le4 d).length = 4 := rfl
theorem le4_at (d : BitVec 32) : ∀ k, k < 4 → (le4 d)[k]? = some (UInt8.ofNat (d.toNat / 256 ^ k % 256))
  | 0, _ => by simp [le4]
  | 1, _ => by simp [le4]
  | 2, _ => by simp [le4]
  | 3, _ => by simp [le4]
  | k + 4, h => by omega

set_option maxRecDepth 100000 in
set_option maxHeartbeats 1000000 in
/-- 'annalsref1.Frame'. -/
theorem dFrame_e (v : Value) (M F : List UInt8) (er : Nat) (w : World) (h : Rd w v M) (he : frmErr M = er) (hF : frmOut M = F) :
    Calls Tryd.prog 51 #[v] w fun e w' => ∃ A c, e = .returned (.tuple #[.slice A F.length c, .int .i64 (er : Int)]) ∧ Own w.heap.size w' (.slice A F.length c) F ∧ Below w.heap.size w w' := by
  obtain ⟨A, c, rfl⟩ := h.form
  have HR := Hd.mk h
  by_cases h0 : M.length = 0
  · obtain rfl := he.symm.trans (frm_empty h0).1
    obtain rfl := hF.symm.trans (frm_empty h0).2
    have b1 : ((M.length : Int) == 0) = true := beq_t (by omega)
    clear h h0 he hF
    go_enter Tryd.func51, Tryd.ntmps51
    go_wp2
    go_ret2
    exact ⟨none, 0, rfl, Own.nil _ _, Below.refl _ _⟩
  · have b1 : ((M.length : Int) == 0) = false := beq_f (by omega)
    by_cases h1 : 1048576 < M.length
    · obtain rfl := he.symm.trans (frm_over h1).1
      obtain rfl := hF.symm.trans (frm_over h1).2
      clear h h0 he hF
      go_enter Tryd.func51, Tryd.ntmps51
      go_wp2
      go_ret2
      exact ⟨none, 0, rfl, Own.nil _ _, Below.refl _ _⟩
    · obtain rfl := he.symm.trans (frm_good h0 (by omega)).1
      obtain rfl := hF.symm.trans (frm_good h0 (by omega)).2
      have hBl : (lenB M).length ≤ 1048586 := by
        have := uenc_len10 (v := M.length) (Is64.mk (by omega))
        simp only [lenB, List.length_append]; omega
      have hfr : frm M = lenB M ++ (le4 (crc (lenB M)) ++ [165]) := rfl
      obtain ⟨B, hB⟩ : ∃ B, lenB M = B := ⟨_, rfl⟩
      rw [hB] at hBl hfr
      obtain ⟨d, hd⟩ : ∃ d, crc B = d := ⟨_, rfl⟩
      rw [hd] at hfr
      have C := Hd.mk (dBytes_e _ M B w h (by omega) hB)
      have S1 := Hd.mk fun W V (h : Rd W V B) => dSum_e V B d W h hd
      have HF := Hd.mk hfr
      have d32 := d.isLt
      obtain ⟨n, hn⟩ : ∃ n, d.toNat = n := ⟨_, rfl⟩
      rw [hn] at S1 d32
      have HN := Hd.mk hn
      clear h h0 he hF hB hd hfr hn
      go_enter Tryd.func51, Tryd.ntmps51
      go_wp2_with fail
      refine C.out.mono ?_
      rintro e w1 ⟨A1, c1, rfl, ho, hb⟩
      have O1 := Hd.mk ho
      have B1 := Hd.mk hb
      clear ho hb C
      go_wp2_with fail
      refine (S1.out _ _ O1.out.rd).mono ?_
      rintro e w' ⟨rfl, rfl⟩
      clear S1
      go_wp2_with fail
      go_loopw [4, 5, 6] (fun l s i wr => ∃ (k m : Nat), i = .int .i64 k ∧ s = .int .u32 m ∧ k ≤ 4 ∧ m < 2 ^ 32 ∧ Hd (n / 256 ^ k = m) ∧ Hd (Own w.heap.size wr l (B ++ (le4 d).take k)) ∧ Hd (Below w.heap.size w wr)) (fun _ _ i _ => 4 - (intOf i).toNat)
      case atStart => exact ⟨0, n, rfl, rfl, by omega, d32, ⟨by simp⟩, ⟨by simpa using O1.out⟩, B1⟩
      case round =>
        clear O1 B1
        obtain ⟨k, m, rfl, rfl, hk, hm, HM, HO, HB⟩ := hrel
        have hle : ∀ x : UInt8, (B ++ (le4 d).take k).length + [x].length ≤ 140737555464192 := by
          intro x
          rw [List.length_append, List.length_take, le4_len]
          simp; omega
        have HL := Hd.mk hle
        clear hle
        by_cases hlt : k < 4
        · go_wp2_with (at_builtin; refine wpList_app rfl _ _ rfl w.heap.size _ _ _ [UInt8.ofNat (m % 256)] rfl rfl (HO.out.alloc _) (Rd.new1 _ _ _ (by simp)) (HL.out _) (hb_alloc HB.out (Nat.le_refl _) _) ?_; intro u1 w2 hown hgr; have HO2 := Hd.mk hown; have HB2 : Hd (Below w.heap.size w w2) := ⟨bel_app HB.out HO.out hgr⟩; clear hown hgr)
          go_roundw
          case rel =>
            refine ⟨k + 1, m / 256, by go_num, by go_num, by omega, by omega, ⟨by rw [Nat.pow_succ, ← Nat.div_div_eq_div_mul, HM.out]⟩, ⟨?_⟩, HB2⟩
            rw [take_snoc (le4_at d k hlt), HN.out, HM.out, ← List.append_assoc]
            exact HO2.out
          case measure => simp [intOf]; omega
        · go_wp2_with (at_builtin; refine wpList_app rfl _ _ rfl w.heap.size _ _ _ [165] rfl rfl (HO.out.alloc _) (Rd.new1 _ _ _ rfl) (HL.out _) (hb_alloc HB.out (Nat.le_refl _) _) ?_; intro u1 w2 hown hgr; have HO2 := Hd.mk hown; have HB2 : Hd (Below w.heap.size w w2) := ⟨bel_app HB.out HO.out hgr⟩; clear hown hgr)
          go_ret2
          have hO := HO2.out
          rw [List.take_of_length_le (by rw [le4_len]; omega), List.append_assoc, ← HF.out] at hO
          obtain ⟨A2, c2, rfl⟩ := hO.rd.form
          exact ⟨A2, c2, rfl, hO, HB2.out⟩

end Go.Proofs.YtbobigaifkffoaaDoor
