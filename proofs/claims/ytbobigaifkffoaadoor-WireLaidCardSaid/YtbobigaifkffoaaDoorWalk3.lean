import Derived.Test.YtbobigaifkffoaaDoorL1
import Derived.Test.YtbobigaifkffoaaDoorL2
import Derived.Test.YtbobigaifkffoaaDoorL3
namespace Go.Proofs.YtbobigaifkffoaaDoor
open Go.RowKit
set_option linter.unusedVariables false
set_option linter.unusedSimpArgs false

set_option maxRecDepth 100000 in
set_option maxHeartbeats 4000000 in
theorem wireLaid_walk (v1 v2 v3 : Value) (L1 L2 L3 : List UInt8) (w : World) (h1 : Rd w v1 L1) (h2 : Rd w v2 L2) (h3 : Rd w v3 L3) (hT : TabOk w) :
    Calls Tryd.prog 3 #[v1, v2, v3] w fun e w' => e = .returned (.bool true) ∧ Below w.heap.size w w' := by
  have HT := Hd.mk hT
  have H1 := Hd.mk h1
  have H2 := Hd.mk h2
  have H3 := Hd.mk h3
  clear hT h1 h2 h3
  obtain ⟨M1, hM1⟩ : ∃ M1, L1.take 2097152 = M1 := ⟨_, rfl⟩
  obtain ⟨M2, hM2⟩ : ∃ M2, L2.take 2097152 = M2 := ⟨_, rfl⟩
  obtain ⟨M3, hM3⟩ : ∃ M3, L3.take 2097152 = M3 := ⟨_, rfl⟩
  have l1 : M1.length ≤ 2097152 := by rw [← hM1, List.length_take]; omega
  have l2 : M2.length ≤ 2097152 := by rw [← hM2, List.length_take]; omega
  have l3 : M3.length ≤ 2097152 := by rw [← hM3, List.length_take]; omega
  have C1 := Hd.mk (first_any v1 L1 w H1.out)
  have C2 := Hd.mk (first_any v2 L2 w H2.out)
  have C3 := Hd.mk (first_any v3 L3 w H3.out)
  rw [hM1] at C1
  rw [hM2] at C2
  rw [hM3] at C3
  clear hM1 hM2 hM3
  go_enter Tryd.func3, Tryd.ntmps3
  go_wp2_with fail
  refine C1.out.mono ?_; rintro e w' ⟨u1, rfl, hu1, rfl⟩
  obtain ⟨A1, cp1, rfl⟩ := hu1.form
  have R1 := Hd.mk hu1
  clear hu1
  go_wp2_with fail
  refine C2.out.mono ?_; rintro e w' ⟨u2, rfl, hu2, rfl⟩
  obtain ⟨A2, cp2, rfl⟩ := hu2.form
  have R2 := Hd.mk hu2
  clear hu2
  go_wp2_with fail
  refine C3.out.mono ?_; rintro e w' ⟨u3, rfl, hu3, rfl⟩
  obtain ⟨A3, cp3, rfl⟩ := hu3.form
  have R3 := Hd.mk hu3
  clear hu3 C1 C2 C3 H1 H2 H3
  go_upto_if 22 with (fail)
  go_cut [7] (fun n wc => ∃ k : Nat, n = .int .i64 k ∧ k = min M1.length M2.length ∧ w = wc)
  case first =>
    by_cases c : M2.length < M1.length
    · go_wp2
      go_meet
      case rel => exact ⟨M2.length, rfl, by omega, rfl⟩
    · go_wp2
      go_meet
      case rel => exact ⟨M1.length, rfl, by omega, rfl⟩
  case rest =>
    obtain ⟨k, rfl, hk, rfl⟩ := hcut
    have hk1 : k ≤ M1.length := by omega
    have hk2 : k ≤ M2.length := by omega
    clear hk
    go_upto_if 28 with (fail)
    go_cut [7] (fun n wc => ∃ k : Nat, n = .int .i64 k ∧ k ≤ M1.length ∧ k ≤ M2.length ∧ k ≤ M3.length ∧ w = wc)
    case first =>
      by_cases c : M3.length < k
      · go_wp2
        go_meet
        case rel => exact ⟨M3.length, rfl, by omega, by omega, by omega, rfl⟩
      · go_wp2
        go_meet
        case rel => exact ⟨k, rfl, by omega, by omega, by omega, rfl⟩
    case rest =>
      clear hk1 hk2
      obtain ⟨n, rfl, hn1, hn2, hn3, rfl⟩ := hcut
      obtain ⟨X1, hX1⟩ : ∃ X, M1.take n = X := ⟨_, rfl⟩
      obtain ⟨X2, hX2⟩ : ∃ X, M2.take n = X := ⟨_, rfl⟩
      obtain ⟨X3, hX3⟩ : ∃ X, M3.take n = X := ⟨_, rfl⟩
      have hl1 : X1.length = n := by rw [← hX1, List.length_take]; omega
      have hl2 : X2.length = n := by rw [← hX2, List.length_take]; omega
      have hl3 : X3.length = n := by rw [← hX3, List.length_take]; omega
      have HX1 := Hd.mk hX1
      have HX2 := Hd.mk hX2
      have HX3 := Hd.mk hX3
      have hl21 : Hd (X2.length = X1.length) := ⟨by omega⟩
      have hl31 : Hd (X3.length = X1.length) := ⟨by omega⟩
      clear hX1 hX2 hX3 hl1 hl2 hl3
      go_wp2_with fail
      refine (part_to _ M1 X1 n w R1.out (by omega) HX1.out).mono ?_; rintro e w1 ⟨x, rfl, hx, hb⟩
      obtain ⟨Ax, cx, rfl⟩ := hx.rd.form
      have X1r := Hd.mk hx.rd
      have B1 := Hd.mk hb
      clear hx hb
      go_wp2_with fail
      refine (part_to _ M2 X2 n w1 (R2.out.below B1.out) (by omega) HX2.out).mono ?_; rintro e w2 ⟨y, rfl, hy, hb⟩
      obtain ⟨Ay, cy, rfl⟩ := hy.rd.form
      have Y2 := Hd.mk hy.rd
      have X2r := Hd.mk (X1r.out.below hb)
      have B2 := Hd.mk (bel_call0 B1.out hb)
      clear hy hb X1r B1
      go_wp2_with fail
      refine (part_to _ M3 X3 n w2 (R3.out.below B2.out) (by omega) HX3.out).mono ?_; rintro e w3 ⟨z, rfl, hz, hb⟩
      obtain ⟨Az, cz, rfl⟩ := hz.rd.form
      have Z := Hd.mk hz.rd
      have X := Hd.mk (X2r.out.below hb)
      have Y := Hd.mk (Y2.out.below hb)
      have B := Hd.mk (bel_call0 B2.out hb)
      have R1' := Hd.mk (R1.out.below B.out)
      have R2' := Hd.mk (R2.out.below B.out)
      have R3' := Hd.mk (R3.out.below B.out)
      have HT' := Hd.mk (HT.out.below B.out)
      clear hz hb X2r Y2 B2 R1 R2 R3 HT
      go_wp2_with fail
      refine (sum_e _ [[49, 50, 51], [], [52, 53, 54, 55, 56, 57]] _ _ (RdL.at3 (by simp) ((Rd.atN _ 3 _ rfl rfl rfl (by simp)).alloc _) (Rd.nil _) (Rd.atN _ 6 _ (by simp) rfl rfl (by simp))) (((HT'.out.alloc _).alloc _).alloc _) crc_123).mono ?_
      rintro e w4 ⟨rfl, hb⟩
      rw [show (((3421780262#32 : BitVec 32).toNat : Nat) : Int) = 3421780262 from rfl]
      have B4 : Hd (Below w3.heap.size w3 w4) := ⟨below_then ((((Below.refl _ _).alloc (Nat.le_refl _) _).alloc (by simp) _).alloc (by simp; omega) _) (by simp; omega) hb⟩
      clear hb
      -- Sum(a, b, c), Sum(join(a, b, c))
      obtain ⟨J3, hJ3⟩ : ∃ J, M1 ++ M2 ++ M3 = J := ⟨_, rfl⟩
      have hJl : J3.length ≤ 6291456 := by rw [← hJ3]; simp; omega
      obtain ⟨s1, hs1⟩ : ∃ s1, crc J3 = s1 := ⟨_, rfl⟩
      have HJ3 := Hd.mk hJ3
      have HS1 := Hd.mk hs1
      clear hJ3 hs1
      go_wp2_with fail
      refine (sum_e _ [M1, M2, M3] s1 _ (RdL.at3 rfl (R1'.out.below B4.out) (R2'.out.below B4.out) (R3'.out.below B4.out)) ((HT'.out.below B4.out).alloc _) (by rw [← HS1.out, ← HJ3.out]; simp)).mono ?_
      rintro e w5 ⟨rfl, hb⟩
      have B5 := Hd.mk (bel_call B4.out _ hb)
      clear hb B4
      go_wp2_with fail
      refine (join_e _ _ _ M1 M2 M3 J3 w5 (R1'.out.below B5.out) (R2'.out.below B5.out) (R3'.out.below B5.out) (by omega) HJ3.out).mono ?_
      rintro e w6 ⟨j, rfl, hj, hb⟩
      obtain ⟨Aj, cj, rfl⟩ := hj.rd.form
      have J := Hd.mk hj.rd
      have B6 := Hd.mk (bel_call0 B5.out hb)
      clear hj hb B5
      go_wp2_with fail
      refine (sum_e _ [J3] s1 _ (RdL.at1 rfl J.out) ((HT'.out.below B6.out).alloc _) (by simpa using HS1.out)).mono ?_
      rintro e w7 ⟨rfl, hb⟩
      have B7 := Hd.mk (bel_call B6.out _ hb)
      clear hb B6 J HS1 HJ3 hJl
      -- Sum(a, nil, b), Sum(nil, join(a, b, nil))
      obtain ⟨J2, hJ2⟩ : ∃ J, M1 ++ M2 = J := ⟨_, rfl⟩
      have HJ2 := Hd.mk hJ2
      obtain ⟨s2, hs2⟩ : ∃ s2, crc J2 = s2 := ⟨_, rfl⟩
      have HS2 := Hd.mk hs2
      clear hs2 hJ2
      go_wp2_with fail
      refine (sum_e _ [M1, [], M2] s2 _ (RdL.at3 rfl (R1'.out.below B7.out) (Rd.nil _) (R2'.out.below B7.out)) ((HT'.out.below B7.out).alloc _) (by rw [← HS2.out, ← HJ2.out]; simp)).mono ?_
      rintro e w8 ⟨rfl, hb⟩
      have B8 := Hd.mk (bel_call B7.out _ hb)
      clear hb B7
      go_wp2_with fail
      refine (join_e _ _ _ M1 M2 [] J2 w8 (R1'.out.below B8.out) (R2'.out.below B8.out) (Rd.nil _) (by simp; omega) (by simp [HJ2.out])).mono ?_
      rintro e w9 ⟨j, rfl, hj, hb⟩
      obtain ⟨Aj, cj, rfl⟩ := hj.rd.form
      have J := Hd.mk hj.rd
      have B9 := Hd.mk (bel_call0 B8.out hb)
      clear hj hb B8
      go_wp2_with fail
      refine (sum_e _ [[], J2] s2 _ (RdL.at2 rfl (Rd.nil _) J.out) ((HT'.out.below B9.out).alloc _) (by simpa using HS2.out)).mono ?_
      rintro e w10 ⟨rfl, hb⟩
      have B10 := Hd.mk (bel_call B9.out _ hb)
      clear hb B9 J HS2 HJ2
      -- the three laid over one another
      obtain ⟨O, hO⟩ : ∃ O, xor3 X1 X2 X3 = O := ⟨_, rfl⟩
      have HO := Hd.mk hO
      clear hO
      go_wp2_with fail
      refine (over_e _ _ _ X1 X2 X3 O w10 (X.out.below B10.out) (Y.out.below B10.out) (Z.out.below B10.out) hl21.out hl31.out HO.out).mono ?_
      rintro e w11 ⟨o, rfl, ho, hb⟩
      obtain ⟨Ao, co, rfl⟩ := ho.rd.form
      have OO := Hd.mk ho.rd
      have B11 := Hd.mk (bel_call0 B10.out hb)
      clear ho hb B10
      have hx3 := crc_xor3 X1 X2 X3 hl21.out hl31.out
      rw [HO.out] at hx3
      obtain ⟨d0, hd0⟩ : ∃ d, crc O = d := ⟨_, rfl⟩
      obtain ⟨d1, hd1⟩ : ∃ d, crc X1 = d := ⟨_, rfl⟩
      obtain ⟨d2, hd2⟩ : ∃ d, crc X2 = d := ⟨_, rfl⟩
      obtain ⟨d3, hd3⟩ : ∃ d, crc X3 = d := ⟨_, rfl⟩
      rw [hd0, hd1, hd2, hd3] at hx3
      have e12 := bits_xor_u32 d1 d2
      have e123 := bits_xor_u32 (d1 ^^^ d2) d3
      obtain ⟨d4, hd4⟩ : ∃ d, d1 ^^^ d2 = d := ⟨_, rfl⟩
      rw [hd4] at e12 e123 hx3
      rw [← hx3] at e123
      have D0 := Hd.mk hd0
      have D1 := Hd.mk hd1
      have D2 := Hd.mk hd2
      have D3 := Hd.mk hd3
      clear hx3 hd0 hd1 hd2 hd3 hd4
      go_wp2_with fail
      refine (sum_e _ [O] d0 _ (RdL.at1 rfl OO.out) ((HT'.out.below B11.out).alloc _) (by simpa using D0.out)).mono ?_
      rintro e w12 ⟨rfl, hb⟩
      have B12 := Hd.mk (bel_call B11.out _ hb)
      clear hb B11 OO
      go_wp2_with fail
      refine (sum_e _ [X1] d1 _ (RdL.at1 rfl (X.out.below B12.out)) ((HT'.out.below B12.out).alloc _) (by simpa using D1.out)).mono ?_
      rintro e w13 ⟨rfl, hb⟩
      have B13 := Hd.mk (bel_call B12.out _ hb)
      clear hb B12
      go_wp2_with fail
      refine (sum_e _ [X2] d2 _ (RdL.at1 rfl (Y.out.below B13.out)) ((HT'.out.below B13.out).alloc _) (by simpa using D2.out)).mono ?_
      rintro e w14 ⟨rfl, hb⟩
      have B14 := Hd.mk (bel_call B13.out _ hb)
      clear hb B13
      go_wp2_with fail
      refine (sum_e _ [X3] d3 _ (RdL.at1 rfl (Z.out.below B14.out)) ((HT'.out.below B14.out).alloc _) (by simpa using D3.out)).mono ?_
      rintro e w15 ⟨rfl, hb⟩
      have B15 := Hd.mk (bel_call B14.out _ hb)
      clear hb B14
      go_wp2
      go_ret
      exact ⟨ret_bool (by simp), bel_call0 B.out B15.out⟩

end Go.Proofs.YtbobigaifkffoaaDoor
