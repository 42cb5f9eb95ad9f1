/-
  THE WALK of the law's helper: stretches.
-/
import Derived.Test.YtbobigaifkffoaaDoorL24
namespace Go.Proofs.YtbobigaifkffoaaDoor
open Go.RowKit
set_option linter.unusedVariables false
set_option linter.unusedSimpArgs false

theorem RdL.alloc {w : World} {v : Value} {Ls : List (List UInt8)} (h : RdL w v Ls) (o : Obj) : RdL (w.alloc o) v Ls := h.below ((Below.refl _ _).alloc (Nat.le_refl _) _)

set_option maxRecDepth 100000 in
set_option maxHeartbeats 3000000 in
/-- 'stretches'. -/
theorem stretches_any (kd u i at_ mx : Int) (vb vp : Value) (B : List UInt8) (Ls : List (List UInt8)) (w : World) (h : Rd w vb B) (hp : RdL w vp Ls) (hT : TabOk w) (ha : -9223372036854775808 ≤ at_) (hm : mx ≤ 9223372036854775807)
    (hB : B.length ≤ 140737488355328) (hL : Ls.flatten.length ≤ 140737555464192) :
    Calls Tryd.prog 46 #[opV kd u i at_ mx vb vp] w fun e w' => e = .returned (.bool true) ∧ Below w.heap.size w w' := by
  obtain ⟨A0, c0, rfl⟩ := h.form
  obtain ⟨A6, c6, rfl, _⟩ := hp.form
  have HR := Hd.mk h
  have HP := Hd.mk hp
  have HT := Hd.mk hT
  obtain ⟨C, hC⟩ : ∃ C, lenB B = C := ⟨_, rfl⟩
  obtain ⟨S, p, er, hE⟩ : ∃ x p er, rdB B at_ mx = (x, p, er) := ⟨_, _, _, rfl⟩
  obtain ⟨M, hM⟩ : ∃ M, Ls.flatten = M := ⟨_, rfl⟩
  obtain ⟨d, hd⟩ : ∃ d, crc M = d := ⟨_, rfl⟩
  obtain ⟨F, hF⟩ : ∃ F, frmOut M = F := ⟨_, rfl⟩
  obtain ⟨es, he⟩ : ∃ er, frmErr M = er := ⟨_, rfl⟩
  rw [hM] at hL
  have C5 := Hd.mk fun W V (h : Rd W V B) => bytes_e V B C W h hB hC
  have D5 := Hd.mk fun W V (h : Rd W V B) => dBytes_e V B C W h hB hC
  have C6 := Hd.mk fun W V (h : Rd W V B) => readBytes_e V B S at_ mx p er W h ha hm hE
  have D6 := Hd.mk fun W V (h : Rd W V B) => dReadBytes_e V B S at_ mx p er W h ha hm hE
  have C7 := Hd.mk fun W V (h : RdL W V Ls) (hT : TabOk W) => sum_e V Ls d W h hT (by rw [hM]; exact hd)
  have J7 := Hd.mk fun W V (h : RdL W V Ls) => dJoin_e V Ls M W h hM hL
  have D7 := Hd.mk fun W V (h : Rd W V M) => dSum_e V M d W h hd
  have C8 := Hd.mk fun W V (h : RdL W V Ls) (hT : TabOk W) => frame_e V Ls M F es W h hT hM he hF
  have D8 := Hd.mk fun W V (h : Rd W V M) => dFrame_e V M F es W h he hF
  have n2 : ∀ z : Int, (z == z) = true := fun z => beq_self_eq_true z
  clear h hp hT ha hm hB hL hC hE hM hd hF he
  unfold opV
  obtain ⟨cs, hcs⟩ : ∃ cs : Array Value, #[.int .i64 kd, .int .u64 u, .int .i64 i, .int .i64 at_, .int .i64 mx, .slice A0 B.length c0, .slice A6 Ls.length c6] = cs := ⟨_, rfl⟩
  have BX := Hd.mk (box_new w cs 66)
  rw [← hcs] at BX
  clear hcs
  have HR1 := Hd.mk (HR.out.alloc (.cells #[.int .i64 kd, .int .u64 u, .int .i64 i, .int .i64 at_, .int .i64 mx, .slice A0 B.length c0, .slice A6 Ls.length c6] 66))
  have HP1 := Hd.mk (HP.out.alloc (.cells #[.int .i64 kd, .int .u64 u, .int .i64 i, .int .i64 at_, .int .i64 mx, .slice A0 B.length c0, .slice A6 Ls.length c6] 66))
  have HT1 := Hd.mk (HT.out.alloc (.cells #[.int .i64 kd, .int .u64 u, .int .i64 i, .int .i64 at_, .int .i64 mx, .slice A0 B.length c0, .slice A6 Ls.length c6] 66))
  have B0 := Hd.mk ((Below.refl w.heap.size w).alloc (Nat.le_refl _) (.cells #[.int .i64 kd, .int .u64 u, .int .i64 i, .int .i64 at_, .int .i64 mx, .slice A0 B.length c0, .slice A6 Ls.length c6] 66))
  by_cases K0 : kd = 5
  · have b1 : (kd == 5) = true := beq_t K0
    clear K0
    go_enter Tryd.func46, Tryd.ntmps46
    go_wp2_with fail
    refine (C5.out _ _ HR1.out).mono ?_
    rintro e w1 ⟨A1, c1, rfl, ho, hb⟩
    have R1 := Hd.mk ho.rd
    have B1 := Hd.mk (below_then B0.out (hb_alloc (Below.refl _ _) (Nat.le_refl _) _) hb)
    have BX1 := BX.out.below hb
    have f3 := BX1 3 _ rfl
    have f4 := BX1 4 _ rfl
    have f5 := BX1 5 _ rfl
    have f6 := BX1 6 _ rfl
    have HR2 := Hd.mk (HR1.out.below hb)
    clear ho hb BX1
    go_wp2_with fail
    refine (D5.out _ _ HR2.out).mono ?_
    rintro e w2 ⟨A2, c2, rfl, ho, hb⟩
    have R2 := Hd.mk ho.rd
    have R12 := Hd.mk (R1.out.below hb)
    have B2 := Hd.mk (bel_call0 B1.out hb)
    clear ho hb f3 f4 f5 f6
    go_wp2_with fail
    refine (same_any _ _ C C true _ R12.out R2.out (by simp)).mono ?_
    rintro e w3 ⟨rfl, hb⟩
    have B3 := Hd.mk (bel_call0 B2.out hb)
    clear hb
    go_wp2
    go_ret
    exact ⟨rfl, B3.out⟩
  · have b1 : (kd == 5) = false := beq_f K0
    clear K0
    by_cases K0 : kd = 6
    · have b2 : (kd == 6) = true := beq_t K0
      clear K0
      go_enter Tryd.func46, Tryd.ntmps46
      go_wp2_with fail
      refine (C6.out _ _ HR1.out).mono ?_
      rintro e w1 ⟨A1, c1, rfl, ho, hb⟩
      have R1 := Hd.mk ho.rd
      have B1 := Hd.mk (below_then B0.out (hb_alloc (Below.refl _ _) (Nat.le_refl _) _) hb)
      have BX1 := BX.out.below hb
      have f3 := BX1 3 _ rfl
      have f4 := BX1 4 _ rfl
      have f5 := BX1 5 _ rfl
      have f6 := BX1 6 _ rfl
      have HR2 := Hd.mk (HR1.out.below hb)
      clear ho hb BX1
      go_wp2_with fail
      refine (D6.out _ _ HR2.out).mono ?_
      rintro e w2 ⟨A2, c2, rfl, ho, hb⟩
      have R2 := Hd.mk ho.rd
      have R12 := Hd.mk (R1.out.below hb)
      have B2 := Hd.mk (bel_call0 B1.out hb)
      clear ho hb f3 f4 f5 f6
      go_wp2_with fail
      refine (same_any _ _ S S true _ R12.out R2.out (by simp)).mono ?_
      rintro e w3 ⟨rfl, hb⟩
      have B3 := Hd.mk (bel_call0 B2.out hb)
      clear hb
      go_wp2_with (go_at_call 24; refine (num_any _ _).mono ?_; rintro e w' ⟨rfl, rfl⟩)
      go_ret
      exact ⟨rfl, B3.out⟩
    · have b2 : (kd == 6) = false := beq_f K0
      clear K0
      by_cases K0 : kd = 7
      · have b3 : (kd == 7) = true := beq_t K0
        clear K0
        go_enter Tryd.func46, Tryd.ntmps46
        go_wp2_with fail
        refine (C7.out _ _ HP1.out HT1.out).mono ?_
        rintro e w1 ⟨rfl, hb⟩
        have B1 := Hd.mk (below_then B0.out (hb_alloc (Below.refl _ _) (Nat.le_refl _) _) hb)
        have BX1 := BX.out.below hb
        have f3 := BX1 3 _ rfl
        have f4 := BX1 4 _ rfl
        have f5 := BX1 5 _ rfl
        have f6 := BX1 6 _ rfl
        have HP2 := Hd.mk (HP1.out.below hb)
        clear hb BX1
        go_wp2_with fail
        refine (J7.out _ _ HP2.out).mono ?_
        rintro e w2 ⟨A2, c2, rfl, ho, hb⟩
        have R2 := Hd.mk ho.rd
        have B2 := Hd.mk (bel_call0 B1.out hb)
        clear ho hb f3 f4 f5 f6
        go_wp2_with fail
        refine (D7.out _ _ R2.out).mono ?_
        rintro e w' ⟨rfl, rfl⟩
        go_wp2
        go_ret
        exact ⟨rfl, B2.out⟩
      · have b3 : (kd == 7) = false := beq_f K0
        clear K0
        go_enter Tryd.func46, Tryd.ntmps46
        go_wp2_with fail
        refine (C8.out _ _ HP1.out HT1.out).mono ?_
        rintro e w1 ⟨A1, c1, rfl, ho, hb⟩
        have R1 := Hd.mk ho.rd
        have B1 := Hd.mk (below_then B0.out (hb_alloc (Below.refl _ _) (Nat.le_refl _) _) hb)
        have BX1 := BX.out.below hb
        have f3 := BX1 3 _ rfl
        have f4 := BX1 4 _ rfl
        have f5 := BX1 5 _ rfl
        have f6 := BX1 6 _ rfl
        have HP2 := Hd.mk (HP1.out.below hb)
        clear ho hb BX1
        go_wp2_with fail
        refine (J7.out _ _ HP2.out).mono ?_
        rintro e w2 ⟨A2, c2, rfl, ho, hb⟩
        have R2 := Hd.mk ho.rd
        have R12 := Hd.mk (R1.out.below hb)
        have B2 := Hd.mk (bel_call0 B1.out hb)
        clear ho hb f3 f4 f5 f6 R1
        go_wp2_with fail
        refine (D8.out _ _ R2.out).mono ?_
        rintro e w3 ⟨A3, c3, rfl, ho, hb⟩
        have R3 := Hd.mk ho.rd
        have R13 := Hd.mk (R12.out.below hb)
        have B3 := Hd.mk (bel_call0 B2.out hb)
        clear ho hb R12 R2
        go_wp2_with fail
        refine (same_any _ _ F F true _ R13.out R3.out (by simp)).mono ?_
        rintro e w4 ⟨rfl, hb⟩
        have B4 := Hd.mk (bel_call0 B3.out hb)
        clear hb
        go_wp2_with (go_at_call 24; refine (num_any _ _).mono ?_; rintro e w' ⟨rfl, rfl⟩)
        go_ret
        exact ⟨rfl, B4.out⟩

end Go.Proofs.YtbobigaifkffoaaDoor
