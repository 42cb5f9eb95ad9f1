import Derived.Test.YtbobigaifkffoaaDoorL11
namespace Go.Proofs.YtbobigaifkffoaaDoor
open Go.RowKit
set_option linter.unusedVariables false
set_option linter.unusedSimpArgs false

/-- A body that may not be framed. -/
theorem torn_bad (v : Value) (L : List UInt8) (k z : Int) (w : World) (h : Rd w v L) (hT : TabOk w) (hbad : L.length = 0 ∨ 1048576 < L.length) :
    Calls Tryd.prog 4 #[v, .int .i64 k, .int .i64 z] w fun e w' => e = .returned (.bool true) ∧ Below w.heap.size w w' := by
  obtain ⟨A, cap, rfl⟩ := h.form
  obtain ⟨er, her⟩ : ∃ er, frmErr L = er := ⟨_, rfl⟩
  have hpos : 13 ≤ er := by
    rcases hbad with h | h
    · rw [(frm_empty h).1] at her; omega
    · rw [(frm_over h).1] at her; omega
  obtain ⟨F, hF⟩ : ∃ F, frmOut L = F := ⟨_, rfl⟩
  have HC := Hd.mk (frame_e _ [L] L F er _ (RdL.new1 h) (hT.alloc _) (by simp) her hF)
  have hl := h.slice.2.2.2.1
  clear her hF h hT
  go_enter Tryd.func4, Tryd.ntmps4
  go_wp2_with fail
  refine HC.out.mono ?_
  rintro e w1 ⟨Af, cf, rfl, hf, hb⟩
  have B1 := Hd.mk (bel_call (Below.refl _ _) _ hb)
  clear hf hb HC
  rcases hbad with h0 | h0
  · have h1 : ((L.length : Int) == 0) = true := beq_t (by omega)
    clear h0
    go_wp2_with (go_at_call 24; refine (num_any _ _).mono ?_; rintro e w' ⟨rfl, rfl⟩)
    go_ret
    exact ⟨ret_bool (bne_t (by omega)), B1.out⟩
  · have h1 : ((L.length : Int) == 0) = false := beq_f (by omega)
    have h2 : decide (1048576 < (L.length : Int)) = true := dec_t (by omega)
    clear h0
    go_wp2_with (go_at_call 24; refine (num_any _ _).mono ?_; rintro e w' ⟨rfl, rfl⟩)
    go_ret
    exact ⟨ret_bool (bne_t (by omega)), B1.out⟩

set_option maxRecDepth 100000 in
set_option maxHeartbeats 4000000 in
/-- A sound body. -/
theorem torn_good (v : Value) (L : List UInt8) (k z : Int) (w : World) (h : Rd w v L) (hT : TabOk w) (h0 : L.length ≠ 0) (h1 : L.length ≤ 1048576) (hk : -9223372036854775808 ≤ k) :
    Calls Tryd.prog 4 #[v, .int .i64 k, .int .i64 z] w fun e w' => e = .returned (.bool true) ∧ Below w.heap.size w w' := by
  obtain ⟨A, cap, rfl⟩ := h.form
  obtain ⟨F, hF⟩ : ∃ F, frm L = F := ⟨_, rfl⟩
  have hFl : F.length ≤ 1048591 := by
    have := uenc_len10 (v := L.length) (Is64.mk (by omega))
    rw [← hF, frm_len]
    omega
  have HC := Hd.mk (frame_e _ [L] L F 0 _ (RdL.new1 h) (hT.alloc _) (by simp) (frm_good h0 h1).1 ((frm_good h0 h1).2.trans hF))
  have HBack : Hd (rdF F 0 = (L, F.length, 0)) := ⟨by
    have := rdF_back [] L [] h0 h1
    simpa [hF] using this⟩
  have HTorn : Hd (∀ j q : Nat, j < F.length → (rdF (F.take j ++ List.replicate q 0) 0).2.2 ≠ 0) := ⟨fun j q hj => by
    have := rdF_torn [] L h1 h0 j q (by rw [hF]; exact hj)
    simpa [hF] using this⟩
  have b1 : ((L.length : Int) == 0) = false := beq_f (by omega)
  have b2 : decide (1048576 < (L.length : Int)) = false := dec_f (by omega)
  have HR := Hd.mk h
  have HT := Hd.mk hT
  clear hF h hT h0 h1
  go_enter Tryd.func4, Tryd.ntmps4
  go_wp2_with fail
  refine HC.out.mono ?_
  rintro e w1 ⟨Af, cf, rfl, hf, hb⟩
  have RF := Hd.mk hf.rd
  have B1 := Hd.mk (bel_call (Below.refl _ _) _ hb)
  clear hf hb HC
  go_wp2_with fail
  refine (readFrame_e _ F L 0 F.length 0 w1 RF.out (HT.out.below B1.out) (by omega) HBack.out).mono ?_
  rintro e w2 ⟨Ab, cb, rfl, hbo, hb⟩
  have RB := Hd.mk hbo.rd
  have RF2 := Hd.mk (RF.out.below hb)
  have B2 := Hd.mk (bel_call0 B1.out hb)
  clear hbo hb B1 RF
  have b3 : ((F.length : Int) != F.length) = false := by simp
  go_wp2_with (go_at_call 24; refine (num_any _ _).mono ?_; rintro e w' ⟨rfl, rfl⟩)
  refine (same_any _ _ L L true w2 RB.out (HR.out.below B2.out) (by simp)).mono ?_
  rintro e w3 ⟨rfl, hb⟩
  have RF3 := Hd.mk (RF2.out.below hb)
  have B3 := Hd.mk (bel_call0 B2.out hb)
  clear hb B2 RF2 RB b3
  by_cases c1 : k < 0
  · have d1 : decide (k < 0) = true := dec_t c1
    go_wp2
    go_ret
    exact ⟨rfl, B3.out⟩
  obtain ⟨j, rfl⟩ : ∃ j : Nat, k = j := ⟨k.toNat, by omega⟩
  have d1 : decide ((j : Int) < 0) = false := dec_f c1
  clear c1 hk
  by_cases c2 : F.length ≤ j
  · have d2 : decide ((F.length : Int) ≤ (j : Int)) = true := dec_t (by omega)
    go_wp2
    go_ret
    exact ⟨rfl, B3.out⟩
  have d2 : decide ((F.length : Int) ≤ (j : Int)) = false := dec_f (by omega)
  by_cases c3 : z < 0
  · have d3 : decide (z < 0) = true := dec_t c3
    go_wp2
    go_ret
    exact ⟨rfl, B3.out⟩
  obtain ⟨q, rfl⟩ : ∃ q : Nat, z = q := ⟨z.toNat, by omega⟩
  have d3 : decide ((q : Int) < 0) = false := dec_f c3
  clear c3
  by_cases c4 : 2097152 < q
  · have d4 : decide (2097152 < (q : Int)) = true := dec_t (by omega)
    go_wp2
    go_ret
    exact ⟨rfl, B3.out⟩
  have d4 : decide (2097152 < (q : Int)) = false := dec_f (by omega)
  go_wp2_with fail
  clear d1 d2 d3 d4 b1 b2
  obtain ⟨X, hX⟩ : ∃ X, F.take j = X := ⟨_, rfl⟩
  have hXl : X.length ≤ 1048591 := by rw [← hX, List.length_take]; omega
  have HX := Hd.mk hX
  clear hX
  refine (part0_e _ F X j w3 RF3.out (by omega) HX.out).mono ?_
  rintro e w4 ⟨Ax, cx, rfl, hx, hb⟩
  have OX := Hd.mk hx
  have B4 := Hd.mk (bel_call0 B3.out hb)
  have HB4 := Hd.mk (B3.out.size)
  clear hx hb
  go_wp2_with fail
  go_loopw [12, 13] (fun t i wr => ∃ m : Nat, i = .int .i64 m ∧ m ≤ q ∧ Hd (Own w.heap.size wr t (X ++ List.replicate m 0)) ∧ Hd (Below w.heap.size w wr)) (fun _ i _ => q - (intOf i).toNat)
  case atStart => exact ⟨0, rfl, by omega, ⟨by simpa using OX.out.mono HB4.out⟩, B4⟩
  case round =>
    obtain ⟨m, rfl, hm, HO, HB⟩ := hrel
    by_cases hlt : m < q
    · have hle : ∀ x : UInt8, (X ++ List.replicate m 0).length + [x].length ≤ 140737488355328 := by intro x; simp; omega
      have HL := Hd.mk hle
      clear hle
      go_wp2_with (at_builtin; refine wpList_app rfl _ _ rfl w.heap.size _ _ _ [0] rfl rfl (HO.out.alloc _) (Rd.new1 _ _ 0 rfl) (HL.out _) (hb_alloc HB.out (Nat.le_refl _) _) ?_; intro u5 w5 hown hgr; have O5 := Hd.mk hown; have B5 := Hd.mk (bel_app HB.out HO.out hgr); clear hown hgr)
      go_roundw
      case rel => exact ⟨m + 1, by go_num, by omega, ⟨by rw [List.replicate_succ', ← List.append_assoc]; exact O5.out⟩, B5⟩
      case measure => simp [intOf]; omega
    · obtain rfl : m = q := by omega
      have hto := HTorn.out j m (by omega)
      rw [HX.out] at hto
      obtain ⟨T, hT⟩ : ∃ T, X ++ List.replicate m 0 = T := ⟨_, rfl⟩
      rw [hT] at hto HO
      have hbad := rdF_bad hto
      obtain ⟨⟨B, p, er⟩, hBe⟩ : ∃ x, rdF T 0 = x := ⟨_, rfl⟩
      rw [hBe] at hto hbad
      obtain ⟨rfl, rfl⟩ : B = [] ∧ p = 0 := hbad
      have her : 1 ≤ er := Nat.pos_of_ne_zero hto
      obtain ⟨At, ct, rfl⟩ := HO.out.rd.form
      have HC := Hd.mk (readFrame_e _ T [] 0 0 er wr HO.out.rd (HT.out.below HB.out) (by omega) hBe)
      have n1 : ((er : Int) != 0) = true := bne_t (by omega)
      clear hto hBe hT
      go_wp2_with fail
      refine HC.out.mono ?_
      rintro e w6 ⟨An, cn, rfl, hn, hb⟩
      have B6 := Hd.mk (bel_call0 HB.out hb)
      clear hn hb HC
      go_wp2_with (go_at_call 24; refine (num_any _ _).mono ?_; rintro e w' ⟨rfl, rfl⟩)
      go_ret
      exact ⟨rfl, B6.out⟩

theorem wireTorn_walk (v : Value) (L : List UInt8) (k z : Int) (w : World) (h : Rd w v L) (hT : TabOk w) (hk : -9223372036854775808 ≤ k) :
    Calls Tryd.prog 4 #[v, .int .i64 k, .int .i64 z] w fun e w' => e = .returned (.bool true) ∧ Below w.heap.size w w' := by
  by_cases h0 : L.length = 0
  · exact torn_bad v L k z w h hT (.inl h0)
  · by_cases h1 : L.length ≤ 1048576
    · exact torn_good v L k z w h hT h0 h1 hk
    · exact torn_bad v L k z w h hT (.inr (by omega))

end Go.Proofs.YtbobigaifkffoaaDoor
