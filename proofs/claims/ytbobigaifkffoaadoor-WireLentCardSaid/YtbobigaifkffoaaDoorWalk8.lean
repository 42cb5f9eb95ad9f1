/-
  LAW WireBack (function 8), walked.
-/
import Derived.Test.YtbobigaifkffoaaDoorL14
import Derived.Test.YtbobigaifkffoaaDoorL3
import Derived.Test.YtbobigaifkffoaaDoorL10
import Derived.Test.YtbobigaifkffoaaDoorL11
namespace Go.Proofs.YtbobigaifkffoaaDoor
open Go.RowKit
set_option linter.unusedVariables false
set_option linter.unusedSimpArgs false

theorem first_e (v : Value) (L X : List UInt8) (w : World) (h : Rd w v L) (hX : L.take 2097152 = X) :
    Calls Tryd.prog 18 #[v] w fun e w' => ∃ A c, e = .returned (.slice A X.length c) ∧ Rd w (.slice A X.length c) X ∧ w = w' := by
  refine (first_any v L w h).mono ?_
  rintro e w' ⟨r, rfl, ho, hb⟩
  rw [hX] at ho
  obtain ⟨A, c, rfl⟩ := ho.form
  exact ⟨A, c, rfl, ho, hb⟩
theorem join_f (v1 v2 v3 : Value) (L1 L2 L3 J : List UInt8) (w : World) (h1 : Rd w v1 L1) (h2 : Rd w v2 L2) (h3 : Rd w v3 L3) (hl : L1.length + L2.length + L3.length ≤ 140737555464192) (hJ : L1 ++ L2 ++ L3 = J) :
    Calls Tryd.prog 21 #[v1, v2, v3] w fun e w' => ∃ A c, e = .returned (.slice A J.length c) ∧ Own w.heap.size w' (.slice A J.length c) J ∧ Below w.heap.size w w' := by
  refine (join_e v1 v2 v3 L1 L2 L3 J w h1 h2 h3 hl hJ).mono ?_
  rintro e w' ⟨r, rfl, ho, hb⟩
  obtain ⟨A, c, rfl⟩ := ho.rd.form
  exact ⟨A, c, rfl, ho, hb⟩
theorem readUint_e (v : Value) (L : List UInt8) (pos : Int) (x p er : Nat) (w : World) (h : Rd w v L) (hp : -9223372036854775808 ≤ pos) (hX : rdU L pos = (x, p, er)) :
    Calls Tryd.prog 34 #[v, .int .i64 pos] w fun e w' => e = .returned (.tuple #[.int .u64 (x : Int), .int .i64 (p : Int), .int .i64 (er : Int)]) ∧ w = w' := by
  refine (readUint_any v L pos w h hp).mono ?_
  rw [hX]
  exact fun e w' h => h

set_option maxRecDepth 100000 in
set_option maxHeartbeats 1600000 in
theorem wireBack_walk (v0 v3 v4 : Value) (L0 L3 L4 : List UInt8) (x i : Int) (w : World) (h0 : Rd w v0 L0) (h3 : Rd w v3 L3) (h4 : Rd w v4 L4) (hT : TabOk w) (hx : 0 ≤ x ∧ x ≤ 18446744073709551615) (hi : -9223372036854775808 ≤ i ∧ i ≤ 9223372036854775807) :
    Calls Tryd.prog 8 #[v0, .int .u64 x, .int .i64 i, v3, v4] w fun e w' => e = .returned (.bool true) ∧ Below w.heap.size w w' := by
  obtain ⟨u, rfl⟩ : ∃ u : Nat, x = u := ⟨x.toNat, by omega⟩
  have hu : Is64 u := Is64.mk (by omega)
  obtain ⟨A, hA⟩ : ∃ X, L0.take 2097152 = X := ⟨_, rfl⟩
  obtain ⟨S, hS⟩ : ∃ X, L3.take 2097152 = X := ⟨_, rfl⟩
  obtain ⟨N, hN⟩ : ∃ X, L4.take 2097152 = X := ⟨_, rfl⟩
  have la : A.length ≤ 2097152 := by rw [← hA, List.length_take]; omega
  have ls : S.length ≤ 2097152 := by rw [← hS, List.length_take]; omega
  have ln : N.length ≤ 2097152 := by rw [← hN, List.length_take]; omega
  have F0 := Hd.mk (first_e v0 L0 A w h0 hA)
  have F3 := Hd.mk (first_e v3 L3 S w h3 hS)
  have F4 := Hd.mk (first_e v4 L4 N w h4 hN)
  have HT := Hd.mk hT
  have lu := uenc_len10 hu
  have lu0 := uenc_pos u
  have li := uenc_len10 (zig_64 hi)
  have lc : (lenB S).length ≤ 2097162 := by
    have := uenc_len10 (v := S.length) (Is64.mk (by omega))
    simp only [lenB, List.length_append]; omega
  have q1 := rdU_back A N u hu
  have q2 := rdI_back A N i hi
  have q3 := rdB_back A N S (by omega)
  obtain ⟨U, hU⟩ : ∃ U, uenc u = U := ⟨_, rfl⟩
  obtain ⟨I, hI⟩ : ∃ I, uenc (zig i) = I := ⟨_, rfl⟩
  obtain ⟨C, hC⟩ : ∃ C, lenB S = C := ⟨_, rfl⟩
  rw [hU] at lu lu0 q1
  rw [hI] at li q2
  rw [hC] at lc q3
  obtain ⟨J1, hJ1⟩ : ∃ J, A ++ U ++ N = J := ⟨_, rfl⟩
  obtain ⟨J2, hJ2⟩ : ∃ J, A ++ I ++ N = J := ⟨_, rfl⟩
  obtain ⟨J3, hJ3⟩ : ∃ J, A ++ C ++ N = J := ⟨_, rfl⟩
  obtain ⟨p1, hp1⟩ : ∃ p, A.length + U.length = p := ⟨_, rfl⟩
  obtain ⟨p2, hp2⟩ : ∃ p, A.length + I.length = p := ⟨_, rfl⟩
  obtain ⟨p3, hp3⟩ : ∃ p, A.length + C.length = p := ⟨_, rfl⟩
  rw [hJ1, hp1] at q1
  rw [hJ2, hp2] at q2
  rw [hJ3, hp3] at q3
  have e1 : ((A.length : Int) + (U.length : Int)) = (p1 : Int) := by omega
  have e2 : ((A.length : Int) + (I.length : Int)) = (p2 : Int) := by omega
  have e3 : ((A.length : Int) + (C.length : Int)) = (p3 : Int) := by omega
  have n1 : ∀ z : Int, (z != z) = false := fun z => bne_self_eq_false z
  have n2 : ∀ z : Int, (z == z) = true := fun z => beq_self_eq_true z
  have U1 := Hd.mk fun W => uint_e u U W hu hU
  have I1 := Hd.mk fun W => int_e i I W hi hI
  have C1 := Hd.mk fun W V h => bytes_e V S C W h (by omega) hC
  have K1 := Hd.mk fun W V (h : Rd W V J1) => readUint_e V J1 A.length u p1 0 W h (by omega) q1
  have K2 := Hd.mk fun W V (h : Rd W V J2) => readInt_e V J2 A.length i p2 0 W h (by omega) q2
  have K3 := Hd.mk fun W V (h : Rd W V J3) => readBytes_e V J3 S A.length S.length p3 0 W h (by omega) (by omega) q3
  have HJ1 := Hd.mk hJ1
  have HJ2 := Hd.mk hJ2
  have HJ3 := Hd.mk hJ3
  clear h0 h3 h4 hT hu hA hS hN hU hI hC q1 q2 q3 hJ1 hJ2 hJ3 hp1 hp2 hp3 hx hi
  go_enter Tryd.func8, Tryd.ntmps8
  go_wp2_with fail
  refine F0.out.mono ?_
  rintro e w' ⟨A0, c0, rfl, r0, rfl⟩
  have RA := Hd.mk r0
  clear r0 F0
  go_wp2_with fail
  refine F3.out.mono ?_
  rintro e w' ⟨A3, c3, rfl, r3, rfl⟩
  have RS := Hd.mk r3
  clear r3 F3
  go_wp2_with fail
  refine F4.out.mono ?_
  rintro e w' ⟨A4, c4, rfl, r4, rfl⟩
  have RN := Hd.mk r4
  clear r4 F4
  go_wp2_with fail
  refine (U1.out _).mono ?_
  rintro e w1 ⟨A5, c5, rfl, ho, hb⟩
  have RU := Hd.mk ho.rd
  have B1 := Hd.mk hb
  clear ho hb U1
  go_wp2_with fail
  refine (join_f _ _ _ A U N J1 w1 (RA.out.below B1.out) RU.out (RN.out.below B1.out) (by omega) HJ1.out).mono ?_
  rintro e w2 ⟨A6, c6, rfl, ho, hb⟩
  have RJ := Hd.mk ho.rd
  have B2 := Hd.mk (bel_call0 B1.out hb)
  clear ho hb RU B1
  go_wp2_with fail
  refine (K1.out _ _ RJ.out).mono ?_
  rintro e w' ⟨rfl, rfl⟩
  clear RJ K1
  have g1 : decide ((U.length : Int) < 1) = false := dec_f (by omega)
  have g2 : decide (10 < (U.length : Int)) = false := dec_f (by omega)

  go_wp2_with (go_at_call 24; refine (num_any _ _).mono ?_; rintro e w' ⟨rfl, rfl⟩)
  refine (I1.out _).mono ?_
  rintro e w3 ⟨A7, c7, rfl, ho, hb⟩
  have RU := Hd.mk ho.rd
  have B3 := Hd.mk (bel_call0 B2.out hb)
  clear ho hb I1 B2
  go_wp2_with fail
  refine (join_f _ _ _ A I N J2 w3 (RA.out.below B3.out) RU.out (RN.out.below B3.out) (by omega) HJ2.out).mono ?_
  rintro e w4 ⟨A8, c8, rfl, ho, hb⟩
  have RJ := Hd.mk ho.rd
  have B4 := Hd.mk (bel_call0 B3.out hb)
  clear ho hb RU B3
  go_wp2_with fail
  refine (K2.out _ _ RJ.out).mono ?_
  rintro e w' ⟨rfl, rfl⟩
  clear RJ K2
  go_wp2_with (go_at_call 24; refine (num_any _ _).mono ?_; rintro e w' ⟨rfl, rfl⟩)
  refine (C1.out _ _ (RS.out.below B4.out)).mono ?_
  rintro e w5 ⟨A9, c9, rfl, ho, hb⟩
  have RU := Hd.mk ho.rd
  have B5 := Hd.mk (bel_call0 B4.out hb)
  clear ho hb C1 B4
  go_wp2_with fail
  refine (join_f _ _ _ A C N J3 w5 (RA.out.below B5.out) RU.out (RN.out.below B5.out) (by omega) HJ3.out).mono ?_
  rintro e w6 ⟨A10, c10, rfl, ho, hb⟩
  have RJ := Hd.mk ho.rd
  have B6 := Hd.mk (bel_call0 B5.out hb)
  clear ho hb RU B5
  go_wp2_with fail
  refine (K3.out _ _ RJ.out).mono ?_
  rintro e w7 ⟨A11, c11, rfl, ho, hb⟩
  have RT := Hd.mk ho.rd
  have B7 := Hd.mk (bel_call0 B6.out hb)
  clear ho hb RJ K3 B6
  go_wp2_with (go_at_call 24; refine (num_any _ _).mono ?_; rintro e w' ⟨rfl, rfl⟩)
  refine (same_any _ _ S S true w7 RT.out (RS.out.below B7.out) (by simp)).mono ?_
  rintro e w8 ⟨rfl, hb⟩
  have B8 := Hd.mk (bel_call0 B7.out hb)
  clear hb RT B7
  have RL := Hd.mk (RdL.new1 (RS.out.below B8.out))
  have TB := Hd.mk ((HT.out.below B8.out).alloc (.cells #[.slice A3 S.length c3] 22))
  have B9 : ∀ {W : World}, Below (w8.alloc (.cells #[.slice A3 S.length c3] 22)).heap.size (w8.alloc (.cells #[.slice A3 S.length c3] 22)) W → Below w.heap.size w W := fun h => bel_call B8.out _ h
  have HB9 := Hd.mk @B9
  clear B9
  by_cases hz : S.length = 0
  · obtain ⟨k1, k2⟩ := frm_empty hz
    have X := Hd.mk (frame_e _ [S] S [] 14 _ RL.out TB.out (by simp) k1 k2)
    have b1 : ((S.length : Int) == 0) = true := beq_t (by omega)
    clear k1 k2 hz RL TB
    go_wp2_with fail
    refine X.out.mono ?_
    rintro e w9 ⟨A12, c12, rfl, ho, hb⟩
    have B10 := Hd.mk (HB9.out hb)
    clear ho hb X HB9
    go_wp2_with (go_at_call 24; refine (num_any _ _).mono ?_; rintro e w' ⟨rfl, rfl⟩)
    go_ret
    exact ⟨rfl, B10.out⟩
  · by_cases hz2 : 1048576 < S.length
    · obtain ⟨k1, k2⟩ := frm_over hz2
      have X := Hd.mk (frame_e _ [S] S [] 13 _ RL.out TB.out (by simp) k1 k2)
      have b1 : ((S.length : Int) == 0) = false := beq_f (by omega)
      have b2 : decide (1048576 < (S.length : Int)) = true := dec_t (by omega)
      clear k1 k2 hz RL TB
      go_wp2_with fail
      refine X.out.mono ?_
      rintro e w9 ⟨A12, c12, rfl, ho, hb⟩
      have B10 := Hd.mk (HB9.out hb)
      clear ho hb X HB9
      go_wp2_with (go_at_call 24; refine (num_any _ _).mono ?_; rintro e w' ⟨rfl, rfl⟩)
      go_ret
      exact ⟨rfl, B10.out⟩
    · obtain ⟨k1, k2⟩ := frm_good hz (by omega)
      have q4 := rdF_back A S N hz (by omega)
      have lf : (frm S).length ≤ 1048591 := by
        have := uenc_len10 (v := S.length) (Is64.mk (by omega))
        rw [frm_len]; omega
      obtain ⟨F, hF⟩ : ∃ F, frm S = F := ⟨_, rfl⟩
      rw [hF] at k2 q4 lf
      obtain ⟨J4, hJ4⟩ : ∃ J, A ++ F ++ N = J := ⟨_, rfl⟩
      obtain ⟨p4, hp4⟩ : ∃ p, A.length + F.length = p := ⟨_, rfl⟩
      rw [hJ4, hp4] at q4
      have e4 : ((A.length : Int) + (F.length : Int)) = (p4 : Int) := by omega
      have X := Hd.mk (frame_e _ [S] S F 0 _ RL.out TB.out (by simp) k1 k2)
      have K4 := Hd.mk fun W V (hT : TabOk W) (h : Rd W V J4) => readFrame_e V J4 S A.length p4 0 W h hT (by omega) q4
      have HJ4 := Hd.mk hJ4
      have b1 : ((S.length : Int) == 0) = false := beq_f (by omega)
      have b2 : decide (1048576 < (S.length : Int)) = false := dec_f (by omega)
      clear k1 k2 hz RL TB hF hJ4 hp4 q4
      go_wp2_with fail
      refine X.out.mono ?_
      rintro e w9 ⟨A12, c12, rfl, ho, hb⟩
      have RU := Hd.mk ho.rd
      have B10 := Hd.mk (HB9.out hb)
      clear ho hb X HB9
      go_wp2_with fail
      refine (join_f _ _ _ A F N J4 w9 (RA.out.below B10.out) RU.out (RN.out.below B10.out) (by omega) HJ4.out).mono ?_
      rintro e w10 ⟨A13, c13, rfl, ho, hb⟩
      have RJ := Hd.mk ho.rd
      have B11 := Hd.mk (bel_call0 B10.out hb)
      clear ho hb RU B10
      go_wp2_with fail
      refine (K4.out _ _ (HT.out.below B11.out) RJ.out).mono ?_
      rintro e w11 ⟨A14, c14, rfl, ho, hb⟩
      have RT := Hd.mk ho.rd
      have B12 := Hd.mk (bel_call0 B11.out hb)
      clear ho hb RJ K4 B11
      go_wp2_with (go_at_call 24; refine (num_any _ _).mono ?_; rintro e w' ⟨rfl, rfl⟩)
      refine (same_any _ _ S S true w11 RT.out (RS.out.below B12.out) (by simp)).mono ?_
      rintro e w12 ⟨rfl, hb⟩
      have B13 := Hd.mk (bel_call0 B12.out hb)
      clear hb RT B12
      go_wp2
      go_ret
      exact ⟨rfl, B13.out⟩

end Go.Proofs.YtbobigaifkffoaaDoor
