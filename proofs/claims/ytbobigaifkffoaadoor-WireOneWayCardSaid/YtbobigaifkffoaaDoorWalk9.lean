/-
  LAW WireOneWay (function 9), walked.
-/
import Derived.Test.YtbobigaifkffoaaDoorWalk8
namespace Go.Proofs.YtbobigaifkffoaaDoor
open Go.RowKit
set_option linter.unusedVariables false
set_option linter.unusedSimpArgs false

theorem rdI_bd {L : List UInt8} {a : Nat} {v : Int} {p : Nat} (h : rdI L a = (v, p, 0)) : -9223372036854775808 ≤ v ∧ v ≤ 9223372036854775807 := by
  obtain ⟨n, q, er, hE⟩ : ∃ x y er, rdU L a = (x, y, er) := ⟨_, _, _, rfl⟩
  unfold rdI at h
  rw [hE] at h
  split at h
  · rename_i h0
    have h0 : er = 0 := h0
    subst h0
    simp only [Prod.mk.injEq] at h
    obtain ⟨rfl, rfl, _⟩ := h
    exact unz_64 (rdU_way hE).2.2.2
  · rename_i h0
    have h0 : ¬ er = 0 := h0
    simp at h
    omega
theorem rd_const : rdU [172, 2] 0 = (300, 2, 0) := by decide +kernel
theorem rdF_neg {L : List UInt8} {pos : Int} (h : pos < 0) : rdF L pos = ([], 0, 1) := rdF_err (bnd_err (rdU_neg h))

set_option maxRecDepth 100000 in
set_option maxHeartbeats 1600000 in
theorem oneWay_neg (v0 : Value) (L : List UInt8) (pos mx : Int) (w : World) (h0 : Rd w v0 L) (hT : TabOk w) (hp : -9223372036854775808 ≤ pos) (hm : -9223372036854775808 ≤ mx ∧ mx ≤ 9223372036854775807) (hneg : pos < 0) :
    Calls Tryd.prog 9 #[v0, .int .i64 pos, .int .i64 mx] w fun e w' => e = .returned (.bool true) ∧ Below w.heap.size w w' := by
  obtain ⟨A0, c0, rfl⟩ := h0.form
  have HR := Hd.mk h0
  have HT := Hd.mk hT
  have K1 := Hd.mk fun W V (h : Rd W V L) => readUint_e V L pos 0 0 1 W h hp (rdU_neg hneg)
  have K2 := Hd.mk fun W V (h : Rd W V L) => readInt_e V L pos 0 0 1 W h hp (by unfold rdI; rw [rdU_neg hneg]; rfl)
  have K3 := Hd.mk fun W V (h : Rd W V L) => readBytes_e V L [] pos mx 0 1 W h hp hm.2 (rdB_arg (.inl hneg))
  have K4 := Hd.mk fun W V (hT : TabOk W) (h : Rd W V L) => readFrame_e V L [] pos 0 1 W h hT hp (rdF_neg hneg)
  clear h0 hT hp hm hneg
  go_enter Tryd.func9, Tryd.ntmps9
  go_wp2_with fail
  refine (readUint_e _ [172, 2] 0 300 2 0 _ (Rd.atN _ 2 _ rfl rfl rfl (by simp)) (by omega) rd_const).mono ?_
  rintro e w1 ⟨rfl, hw⟩
  have B : Hd (Below w.heap.size w w1) := ⟨hw ▸ (Below.refl _ _).alloc (Nat.le_refl _) _⟩
  clear hw
  go_wp2_with (go_at_call 24; refine (num_any _ _).mono ?_; rintro e w' ⟨rfl, rfl⟩)
  refine (K1.out _ _ (HR.out.below B.out)).mono ?_
  rintro e w' ⟨rfl, rfl⟩
  go_wp2_with (go_at_call 24; refine (num_any _ _).mono ?_; rintro e w' ⟨rfl, rfl⟩)
  refine (K2.out _ _ (HR.out.below B.out)).mono ?_
  rintro e w' ⟨rfl, rfl⟩
  go_wp2_with (go_at_call 24; refine (num_any _ _).mono ?_; rintro e w' ⟨rfl, rfl⟩)
  refine (K3.out _ _ (HR.out.below B.out)).mono ?_
  rintro e w2 ⟨_, _, rfl, ho, hb⟩
  replace B := Hd.mk (bel_call0 B.out hb)
  clear ho hb
  go_wp2_with (go_at_call 24; refine (num_any _ _).mono ?_; rintro e w' ⟨rfl, rfl⟩)
  refine (K4.out _ _ (HT.out.below B.out) (HR.out.below B.out)).mono ?_
  rintro e w3 ⟨_, _, rfl, ho, hb⟩
  replace B := Hd.mk (bel_call0 B.out hb)
  clear ho hb
  go_wp2_with (go_at_call 24; refine (num_any _ _).mono ?_; rintro e w' ⟨rfl, rfl⟩)
  go_ret
  exact ⟨rfl, B.out⟩

set_option maxRecDepth 100000 in
set_option maxHeartbeats 4000000 in
theorem oneWay_at (v0 : Value) (L : List UInt8) (a : Nat) (mx : Int) (w : World) (h0 : Rd w v0 L) (hl0 : L.length ≤ 140737488351232) (hT : TabOk w) (hp : a ≤ 9223372036854775807) (hm : -9223372036854775808 ≤ mx ∧ mx ≤ 9223372036854775807) :
    Calls Tryd.prog 9 #[v0, .int .i64 a, .int .i64 mx] w fun e w' => e = .returned (.bool true) ∧ Below w.heap.size w w' := by
  obtain ⟨A0, c0, rfl⟩ := h0.form
  have HR := Hd.mk h0
  have HT := Hd.mk hT
  obtain ⟨x, p1, er1, hE1⟩ : ∃ x p er, rdU L a = (x, p, er) := ⟨_, _, _, rfl⟩
  obtain ⟨i, p2, er2, hE2⟩ : ∃ x p er, rdI L a = (x, p, er) := ⟨_, _, _, rfl⟩
  obtain ⟨S, p3, er3, hE3⟩ : ∃ x p er, rdB L a mx = (x, p, er) := ⟨_, _, _, rfl⟩
  obtain ⟨M, p4, er4, hE4⟩ : ∃ x p er, rdF L a = (x, p, er) := ⟨_, _, _, rfl⟩
  have K1 := Hd.mk fun W V (h : Rd W V L) => readUint_e V L a x p1 er1 W h (by omega) hE1
  have K2 := Hd.mk fun W V (h : Rd W V L) => readInt_e V L a i p2 er2 W h (by omega) hE2
  have K3 := Hd.mk fun W V (h : Rd W V L) => readBytes_e V L S a mx p3 er3 W h (by omega) hm.2 hE3
  have K4 := Hd.mk fun W V (hT : TabOk W) (h : Rd W V L) => readFrame_e V L M a p4 er4 W h hT (by omega) hE4
  have E1 := Hd.mk hE1
  have E2 := Hd.mk hE2
  have E3 := Hd.mk hE3
  have E4 := Hd.mk hE4
  have HP := Hd.mk hp
  clear h0 hT hp hm hE1 hE2 hE3 hE4
  go_enter Tryd.func9, Tryd.ntmps9
  go_wp2_with fail
  refine (readUint_e _ [172, 2] 0 300 2 0 _ (Rd.atN _ 2 _ rfl rfl rfl (by simp)) (by omega) rd_const).mono ?_
  rintro e w1 ⟨rfl, hw⟩
  have B : Hd (Below w.heap.size w w1) := ⟨hw ▸ (Below.refl _ _).alloc (Nat.le_refl _) _⟩
  clear hw
  go_wp2_with (go_at_call 24; refine (num_any _ _).mono ?_; rintro e w' ⟨rfl, rfl⟩)
  refine (K1.out _ _ (HR.out.below B.out)).mono ?_
  rintro e w' ⟨rfl, rfl⟩
  clear K1
  by_cases hz : er1 = 0
  case' pos =>
    subst hz
    obtain ⟨y1, y2, _, y4⟩ := rdU_way E1.out
    obtain ⟨U, hU⟩ : ∃ U, uenc x = U := ⟨_, rfl⟩
    rw [hU] at y1
    have U1 := Hd.mk fun W => uint_e x U W y4 hU
    have P1 := Hd.mk fun W V (h : Rd W V L) => part_e V L U a p1 W h HP.out (by omega) y1
    have d1 : decide ((L.length : Int) < (p1 : Int)) = false := dec_f (by omega)
    have d2 : decide (L.length < p1) = false := dec_f (by omega)
    clear y1 y4 hU E1 y2
    go_wp2_with (go_at_call 24; refine (num_any _ _).mono ?_; rintro e w' ⟨rfl, rfl⟩)
    refine (P1.out _ _ (HR.out.below B.out)).mono ?_
    rintro e w2 ⟨A1, c1, rfl, ho, hb⟩
    have RX := Hd.mk ho.rd
    replace B := Hd.mk (bel_call0 B.out hb)
    clear ho hb P1
    go_wp2_with fail
    refine (U1.out _).mono ?_
    rintro e w3 ⟨A2, c2, rfl, ho, hb⟩
    have RY := Hd.mk ho.rd
    have RX2 := Hd.mk (RX.out.below hb)
    replace B := Hd.mk (bel_call0 B.out hb)
    clear ho hb U1 RX
    go_wp2_with fail
    refine (same_any _ _ U U true _ RX2.out RY.out (by simp)).mono ?_
    rintro e w4 ⟨rfl, hb⟩
    replace B := Hd.mk (bel_call0 B.out hb)
    clear hb RX2 RY d1 d2
    go_wp2_with fail
  case' neg =>
    have b1 : ((er1 : Int) == 0) = false := beq_f (by omega)
    clear E1 hz
    go_wp2_with (go_at_call 24; refine (num_any _ _).mono ?_; rintro e w' ⟨rfl, rfl⟩)
    clear b1
  all_goals
    refine (K2.out _ _ (HR.out.below B.out)).mono ?_
    rintro e w' ⟨rfl, rfl⟩
    clear K2
    by_cases hz : er2 = 0
    case' pos =>
      subst hz
      obtain ⟨y1, y2⟩ := rdI_way E2.out
      have y4 := rdI_bd E2.out
      obtain ⟨U, hU⟩ : ∃ U, uenc (zig i) = U := ⟨_, rfl⟩
      rw [hU] at y1
      have U2 := Hd.mk fun W => int_e i U W y4 hU
      have P2 := Hd.mk fun W V (h : Rd W V L) => part_e V L U a p2 W h HP.out (by omega) y1
      have d1 : decide ((L.length : Int) < (p2 : Int)) = false := dec_f (by omega)
      have d2 : decide (L.length < p2) = false := dec_f (by omega)
      clear y1 y4 hU E2 y2
      go_wp2_with (go_at_call 24; refine (num_any _ _).mono ?_; rintro e w' ⟨rfl, rfl⟩)
      refine (P2.out _ _ (HR.out.below B.out)).mono ?_
      rintro e w2 ⟨A1, c1, rfl, ho, hb⟩
      have RX := Hd.mk ho.rd
      replace B := Hd.mk (bel_call0 B.out hb)
      clear ho hb P2
      go_wp2_with fail
      refine (U2.out _).mono ?_
      rintro e w3 ⟨A2, c2, rfl, ho, hb⟩
      have RY := Hd.mk ho.rd
      have RX2 := Hd.mk (RX.out.below hb)
      replace B := Hd.mk (bel_call0 B.out hb)
      clear ho hb U2 RX
      go_wp2_with fail
      refine (same_any _ _ U U true _ RX2.out RY.out (by simp)).mono ?_
      rintro e w4 ⟨rfl, hb⟩
      replace B := Hd.mk (bel_call0 B.out hb)
      clear hb RX2 RY d1 d2
      go_wp2_with fail
    case' neg =>
      have b1 : ((er2 : Int) == 0) = false := beq_f (by omega)
      clear E2 hz
      go_wp2_with (go_at_call 24; refine (num_any _ _).mono ?_; rintro e w' ⟨rfl, rfl⟩)
      clear b1
    all_goals
      refine (K3.out _ _ (HR.out.below B.out)).mono ?_
      rintro e w5 ⟨A3, c3, rfl, ho, hb⟩
      have RS := Hd.mk ho.rd
      replace B := Hd.mk (bel_call0 B.out hb)
      clear ho hb
      clear K3
      by_cases hz : er3 = 0
      case' pos =>
        subst hz
        obtain ⟨y1, y2, y3⟩ := rdB_way E3.out
        have y4 : S.length ≤ 140737488355328 := by
          have g := congrArg List.length y1
          simp only [lenB, List.length_drop, List.length_take, List.length_append] at g
          omega
        have d3 : decide (mx < (S.length : Int)) = false := dec_f (by omega)
        obtain ⟨U, hU⟩ : ∃ U, lenB S = U := ⟨_, rfl⟩
        rw [hU] at y1
        have U3 := Hd.mk fun W V (h : Rd W V S) => bytes_e V S U W h y4 hU
        have P3 := Hd.mk fun W V (h : Rd W V L) => part_e V L U a p3 W h HP.out (by omega) y1
        have d1 : decide ((L.length : Int) < (p3 : Int)) = false := dec_f (by omega)
        have d2 : decide (L.length < p3) = false := dec_f (by omega)
        clear y1 y3 y4 hU E3 y2
        go_wp2_with (go_at_call 24; refine (num_any _ _).mono ?_; rintro e w' ⟨rfl, rfl⟩)
        refine (P3.out _ _ (HR.out.below B.out)).mono ?_
        rintro e w2 ⟨A1, c1, rfl, ho, hb⟩
        have RX := Hd.mk ho.rd
        replace RS := Hd.mk (RS.out.below hb)
        replace B := Hd.mk (bel_call0 B.out hb)
        clear ho hb P3
        go_wp2_with fail
        refine (U3.out _ _ RS.out).mono ?_
        rintro e w3 ⟨A2, c2, rfl, ho, hb⟩
        have RY := Hd.mk ho.rd
        have RX2 := Hd.mk (RX.out.below hb)
        replace B := Hd.mk (bel_call0 B.out hb)
        clear ho hb U3 RX
        go_wp2_with fail
        refine (same_any _ _ U U true _ RX2.out RY.out (by simp)).mono ?_
        rintro e w4 ⟨rfl, hb⟩
        replace B := Hd.mk (bel_call0 B.out hb)
        clear hb RX2 RY d1 d2 d3 RS
        go_wp2_with fail
      case' neg =>
        have b1 : ((er3 : Int) == 0) = false := beq_f (by omega)
        clear E3 hz
        go_wp2_with (go_at_call 24; refine (num_any _ _).mono ?_; rintro e w' ⟨rfl, rfl⟩)
        clear b1
      all_goals
        refine (K4.out _ _ (HT.out.below B.out) (HR.out.below B.out)).mono ?_
        rintro e w6 ⟨A4, c4, rfl, ho, hb⟩
        have RS := Hd.mk ho.rd
        replace B := Hd.mk (bel_call0 B.out hb)
        clear ho hb K4
        by_cases hz : er4 = 0
        · subst hz
          obtain ⟨y1, y2, y3, y4⟩ := rdF_way E4.out
          obtain ⟨k1, k2⟩ := frm_good y3 y4
          obtain ⟨U, hU⟩ : ∃ U, frm M = U := ⟨_, rfl⟩
          rw [hU] at y1 k2
          have P4 := Hd.mk fun W V (h : Rd W V L) => part_e V L U a p4 W h HP.out (by omega) y1
          have X := Hd.mk (frame_e _ [M] M U 0 _ (RdL.new1 RS.out) ((HT.out.below B.out).alloc _) (by simp) k1 k2)
          have d1 : decide ((p4 : Int) ≤ (L.length : Int)) = true := dec_t (by omega)
          have d2 : decide (p4 ≤ L.length) = true := dec_t (by omega)
          clear y1 y2 y3 y4 k1 k2 hU E4
          go_wp2_with (go_at_call 24; refine (num_any _ _).mono ?_; rintro e w' ⟨rfl, rfl⟩)
          refine X.out.mono ?_
          rintro e w7 ⟨A5, c5, rfl, ho, hb⟩
          have RY := Hd.mk ho.rd
          replace B := Hd.mk (bel_call B.out _ hb)
          clear ho hb X RS
          go_wp2_with (go_at_call 24; refine (num_any _ _).mono ?_; rintro e w' ⟨rfl, rfl⟩)
          refine (P4.out _ _ (HR.out.below B.out)).mono ?_
          rintro e w8 ⟨A6, c6, rfl, ho, hb⟩
          have RX := Hd.mk ho.rd
          have RY2 := Hd.mk (RY.out.below hb)
          replace B := Hd.mk (bel_call0 B.out hb)
          clear ho hb RY
          go_wp2_with fail
          refine (same_any _ _ U U true _ RX.out RY2.out (by simp)).mono ?_
          rintro e w9 ⟨rfl, hb⟩
          replace B := Hd.mk (bel_call0 B.out hb)
          clear hb
          go_wp2
          go_ret
          exact ⟨rfl, B.out⟩
        · have b1 : ((er4 : Int) == 0) = false := beq_f (by omega)
          clear E4 hz
          go_wp2_with (go_at_call 24; refine (num_any _ _).mono ?_; rintro e w' ⟨rfl, rfl⟩)
          go_ret
          exact ⟨rfl, B.out⟩

theorem wireOneWay_walk (v0 : Value) (L : List UInt8) (pos mx : Int) (w : World) (h0 : Rd w v0 L) (hl0 : L.length ≤ 140737488351232) (hT : TabOk w) (hp : -9223372036854775808 ≤ pos ∧ pos ≤ 9223372036854775807) (hm : -9223372036854775808 ≤ mx ∧ mx ≤ 9223372036854775807) :
    Calls Tryd.prog 9 #[v0, .int .i64 pos, .int .i64 mx] w fun e w' => e = .returned (.bool true) ∧ Below w.heap.size w w' := by
  by_cases hneg : pos < 0
  · exact oneWay_neg v0 L pos mx w h0 hT hp.1 hm hneg
  · obtain ⟨a, rfl⟩ : ∃ a : Nat, pos = a := ⟨pos.toNat, by omega⟩
    exact oneWay_at v0 L a mx w h0 hl0 hT (by omega) hm

end Go.Proofs.YtbobigaifkffoaaDoor
