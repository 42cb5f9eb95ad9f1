/-
  THE WALK of the law WireAgain.
-/
import Derived.Test.YtbobigaifkffoaaDoorL31
import Derived.Outline
namespace Go.Proofs.YtbobigaifkffoaaDoor
open Go.RowKit
set_option linter.unusedVariables false
set_option linter.unusedSimpArgs false

set_option maxRecDepth 100000 in
set_option maxHeartbeats 3000000 in
/-- 'WireAgain': true for every size and list of calls. -/
theorem wireAgain_walk (sz : Int) (v : Value) (os : List OpD) (w : World) (h : RdOw w v os) (hT : TabOk w) (hs : -9223372036854775808 ≤ sz ∧ sz ≤ 9223372036854775807) :
    Calls Tryd.prog 17 #[.int .i64 sz, v] w fun e w' => e = .returned (.bool true) ∧ Below w.heap.size w w' := by
  obtain ⟨A, cap, rfl, hls⟩ := h.form
  have HR := Hd.mk h
  have HT := Hd.mk hT
  clear h hT
  obtain ⟨m, hm⟩ : ∃ m, Int.tmod sz 400 = m := ⟨_, rfl⟩
  have hm1 : -400 < m ∧ m < 400 := by
    have := Int.natAbs_tmod sz 400
    rw [hm, show (400 : Int).natAbs = 400 from rfl] at this
    omega
  go_enter Tryd.func17, Tryd.ntmps17
  go_upto_if 29 with fail
  obtain ⟨n, hn⟩ : ∃ n : Nat, m.natAbs = n := ⟨_, rfl⟩
  have hn4 : n < 400 := by omega
  go_cut [0] (fun s0 wx => s0 = .int .i64 (n : Int) ∧ wx = w)
  case first =>
    by_cases hneg : m < 0
    · have d1 : decide (m < 0) = true := dec_t hneg
      have e1 : -m = (n : Int) := by omega
      clear hn
      go_wp2_with fail
      go_meet
      exact ⟨rfl, rfl⟩
    · have d1 : decide (m < 0) = false := dec_f hneg
      have e1 : m = (n : Int) := by omega
      clear hn
      go_wp2_with fail
      go_meet
      exact ⟨rfl, rfl⟩
  case rest =>
    obtain ⟨rfl, rfl⟩ := hcut
    clear hm hm1 hn
    go_wp2_with (at_make; refine wpList_mkn rfl _ _ rfl wc.heap.size _ _ _ _ n rfl rfl (by omega) (by omega) (by omega) (Nat.le_refl _) ?_; intro w1 hown hgr; have O1 := Hd.mk hown; have B1 : Hd (Below wc.heap.size wc w1) := ⟨bel_grown (Below.refl _ _) hgr⟩; clear hown hgr)
    go_loopw [6] (fun i wr => ∃ (k : Nat) (Z : List UInt8), i = .int .i64 k ∧ k ≤ os.length ∧ Hd (Z.length = n) ∧ Hd (Own wc.heap.size wr (.slice (some ⟨wc.heap.size, 0, none⟩) n n) Z) ∧ Hd (Below wc.heap.size wc wr)) (fun i _ => os.length - (intOf i).toNat)
    case atStart => exact ⟨0, _, rfl, by omega, ⟨by simp⟩, O1, B1⟩
    case round =>
      clear O1 B1
      obtain ⟨k, Z, rfl, hk, HZ, HO, HB⟩ := hrel
      by_cases hlt : k < os.length
      · obtain ⟨ad, o, rfl, ho, hok, hat⟩ := HR.out.at_ k hlt
        obtain ⟨kd, u, i, at_, mx, B, Ls⟩ := o
        obtain ⟨hu, hi, ha, hm⟩ := hok
        obtain ⟨vb, vp, h0, h1, h2, h3, h4, h5, h6, hb, hp⟩ := hat
        simp only at hu hi ha hm h0 h1 h2 h3 h4 h5 h6 hb hp
        obtain ⟨A0, c0, rfl⟩ := hb.form
        obtain ⟨A6, c6, rfl, _⟩ := hp.form
        replace h0 := cell_below HB.out h0
        replace h1 := cell_at (by omega) (cell_below HB.out h1)
        replace h2 := cell_at (by omega) (cell_below HB.out h2)
        replace h3 := cell_at (by omega) (cell_below HB.out h3)
        replace h4 := cell_at (by omega) (cell_below HB.out h4)
        replace h5 := cell_at (by omega) (cell_below HB.out h5)
        replace h6 := cell_at (by omega) (cell_below HB.out h6)
        have RB := Hd.mk hb
        clear ho hb hp
        go_wp2_with fail
        have hbx := box_new wr #[.int .i64 kd, .int .u64 u, .int .i64 i, .int .i64 at_, .int .i64 mx, .slice A0 B.length c0, .slice A6 Ls.length c6] 66
        have hfz : ∀ j, (wr.alloc (.cells #[.int .i64 kd, .int .u64 u, .int .i64 i, .int .i64 at_, .int .i64 mx, .slice A0 B.length c0, .slice A6 Ls.length c6] 66)).frozen? ⟨wr.heap.size, j, none⟩ = false := fun j => frozen_new _ _ _ _
        have hb1 := HB.out.alloc HB.out.size (.cells #[.int .i64 kd, .int .u64 u, .int .i64 i, .int .i64 at_, .int .i64 mx, .slice A0 B.length c0, .slice A6 Ls.length c6] 66)
        have ho1 := HO.out.alloc (.cells #[.int .i64 kd, .int .u64 u, .int .i64 i, .int .i64 at_, .int .i64 mx, .slice A0 B.length c0, .slice A6 Ls.length c6] 66)
        have hgs : wr.heap.size < (wr.alloc (.cells #[.int .i64 kd, .int .u64 u, .int .i64 i, .int .i64 at_, .int .i64 mx, .slice A0 B.length c0, .slice A6 Ls.length c6] 66)).heap.size := by simp
        have hgb : wc.heap.size < wr.heap.size := (HO.out.head1).2
        obtain ⟨gb, hgbe⟩ : ∃ gb, wr.heap.size = gb := ⟨_, rfl⟩
        generalize (wr.alloc (.cells #[.int .i64 kd, .int .u64 u, .int .i64 i, .int .i64 at_, .int .i64 mx, .slice A0 B.length c0, .slice A6 Ls.length c6] 66)) = w1 at *
        rw [hgbe] at hbx hfz hgs hgb ⊢
        have BX1 := Hd.mk hbx
        have FZ1 := Hd.mk hfz
        have B1 := Hd.mk hb1
        have G1 := Hd.mk hgs
        have GB := Hd.mk hgb
        have O1 := Hd.mk ho1
        clear hbx hfz hb1 ho1 hgs hgb hgbe h0 h1 h2 h3 h4 h5 h6 HO HB
        refine (filledBy_any wc.heap.size _ n n Z B _ w1 O1.out (fun W hW => RB.out.old (fun j hj => (hW j (by omega)).trans (B1.out.block j hj)))).mono ?_
        rintro e w2 ⟨v2, rfl, ho, hs, hb⟩
        have BX2 : Hd (BoxAt w2 gb #[.int .i64 kd, .int .u64 u, .int .i64 i, .int .i64 at_, .int .i64 mx, .slice A0 B.length c0, .slice A6 Ls.length c6]) := ⟨fun j v hj => (World.cell?_of_block (hs gb (by have := GB.out; omega))).trans (BX1.out j v hj)⟩
        have G2 : Hd (gb < w2.heap.size) := ⟨Nat.lt_of_lt_of_le G1.out hb.size⟩
        have FZ2 : Hd (∀ j, w2.frozen? ⟨gb, j, none⟩ = false) := ⟨fun j => (frozen_block (hs gb (by have := GB.out; omega))).trans (FZ1.out j)⟩
        have B2 := Hd.mk (B1.out.trans hb)
        obtain ⟨F, hF⟩ : ∃ F, fill n B = F := ⟨_, rfl⟩
        have hFl : F.length = n := by rw [← hF, fill_len]
        rw [hF] at ho
        have O2 := Hd.mk ho
        clear hF ho hs hb BX1 FZ1 B1 G1 O1 RB
        go_wp2_with fail
        refine (dPart_e _ F F 0 n w2 O2.out.rd (by omega) (by omega) (by rw [← hFl]; simp)).mono ?_
        rintro e w3 ⟨A3, c3, rfl, ho, hb⟩
        have G3 : Hd (gb < w3.heap.size) := ⟨Nat.lt_of_lt_of_le G2.out hb.size⟩
        have BX3 := BX2.out.below hb
        have FZ3 : ∀ j, w3.frozen? ⟨gb, j, none⟩ = false := fun j => (frozen_below hb G2.out).trans (FZ2.out j)
        have O3 := Hd.mk (O2.out.below hb)
        have OW : Hd (Own (gb + 1) w3 (.slice A3 F.length c3) F) := ⟨ho.mono G2.out⟩
        have B3 := Hd.mk (bel_call0 B2.out hb)
        have q0 := BX3 0 _ rfl
        have q1 := BX3 1 _ rfl
        have q2 := BX3 2 _ rfl
        have q3 := BX3 3 _ rfl
        have q4 := BX3 4 _ rfl
        have q5 := BX3 5 _ rfl
        have q6 := BX3 6 _ rfl
        have HX3 := Hd.mk BX3
        clear ho hb BX2 FZ2 B2 G2 O2 BX3
        rw [hFl] at OW ⊢
        have HFl := Hd.mk hFl
        clear hFl
        go_upto_block 2 with fail
        go_cut [9] (fun ok wx => ok = .bool true ∧ Hd (Own wc.heap.size wx (.slice (some ⟨wc.heap.size, 0, none⟩) n n) F) ∧ Hd (Own wc.heap.size wx (.slice A3 n c3) F) ∧ Hd (Below wc.heap.size wc wx))
        case first =>
          rcases kinds2 kd with ⟨b2, b6⟩ | ⟨b2, b4, b6⟩ | ⟨b2, b4, b6, b5⟩ | h1
          · have O4 := Hd.mk (O3.out.setO (a := ⟨gb, 5, none⟩) (show some wc.heap.size ≠ some gb by intro e; injection e with e; have := GB.out; omega) (.slice (some ⟨wc.heap.size, 0, none⟩) n n))
            have W4 := Hd.mk ((OW.out.set (a := ⟨gb, 5, none⟩) (Nat.lt_succ_self gb) (.slice (some ⟨wc.heap.size, 0, none⟩) n n)).mono (Nat.le_succ_of_le (Nat.le_of_lt GB.out)))
            have B4 := Hd.mk (B3.out.setCell (p := ⟨gb, 5, none⟩) (Nat.le_of_lt GB.out) (.slice (some ⟨wc.heap.size, 0, none⟩) n n))
            have S4 : Hd (wc.heap.size ≤ (w3.setCell ⟨gb, 5, none⟩ (.slice (some ⟨wc.heap.size, 0, none⟩) n n)).heap.size) := ⟨B4.out.size⟩
            have z5 := FZ3 5
            go_wp2_with fail
            refine (numbers_any kd i at_ mx u _ _ F _ O4.out.rd hu hi ha).mono ?_
            rintro e w5 ⟨rfl, hb⟩
            have O5 := Hd.mk (O4.out.below hb)
            have W5 := Hd.mk (W4.out.below hb)
            have B5 := Hd.mk (B4.out.trans (hb.mono S4.out))
            clear hb q0 q1 q2 q3 q4 q5 q6 z5
            go_wp2_with fail
            go_meet
            exact ⟨rfl, O5, W5, B5⟩
          · have O4 := Hd.mk (O3.out.setO (a := ⟨gb, 5, none⟩) (show some wc.heap.size ≠ some gb by intro e; injection e with e; have := GB.out; omega) (.slice (some ⟨wc.heap.size, 0, none⟩) n n))
            have W4 := Hd.mk ((OW.out.set (a := ⟨gb, 5, none⟩) (Nat.lt_succ_self gb) (.slice (some ⟨wc.heap.size, 0, none⟩) n n)).mono (Nat.le_succ_of_le (Nat.le_of_lt GB.out)))
            have B4 := Hd.mk (B3.out.setCell (p := ⟨gb, 5, none⟩) (Nat.le_of_lt GB.out) (.slice (some ⟨wc.heap.size, 0, none⟩) n n))
            have S4 : Hd (wc.heap.size ≤ (w3.setCell ⟨gb, 5, none⟩ (.slice (some ⟨wc.heap.size, 0, none⟩) n n)).heap.size) := ⟨B4.out.size⟩
            have z5 := FZ3 5
            go_wp2_with fail
            refine (numbers_any kd i at_ mx u _ _ F _ O4.out.rd hu hi ha).mono ?_
            rintro e w5 ⟨rfl, hb⟩
            have O5 := Hd.mk (O4.out.below hb)
            have W5 := Hd.mk (W4.out.below hb)
            have B5 := Hd.mk (B4.out.trans (hb.mono S4.out))
            clear hb q0 q1 q2 q3 q4 q5 q6 z5
            go_wp2_with fail
            go_meet
            exact ⟨rfl, O5, W5, B5⟩
          · have O4 := Hd.mk (O3.out.setO (a := ⟨gb, 5, none⟩) (show some wc.heap.size ≠ some gb by intro e; injection e with e; have := GB.out; omega) (.slice (some ⟨wc.heap.size, 0, none⟩) n n))
            have W4 := Hd.mk ((OW.out.set (a := ⟨gb, 5, none⟩) (Nat.lt_succ_self gb) (.slice (some ⟨wc.heap.size, 0, none⟩) n n)).mono (Nat.le_succ_of_le (Nat.le_of_lt GB.out)))
            have B4 := Hd.mk (B3.out.setCell (p := ⟨gb, 5, none⟩) (Nat.le_of_lt GB.out) (.slice (some ⟨wc.heap.size, 0, none⟩) n n))
            have S4 : Hd (wc.heap.size ≤ (w3.setCell ⟨gb, 5, none⟩ (.slice (some ⟨wc.heap.size, 0, none⟩) n n)).heap.size) := ⟨B4.out.size⟩
            have z5 := FZ3 5
            go_wp2_with fail
            refine (stretches6_any kd u i at_ mx _ _ F _ O4.out.rd ha hm b5 b6).mono ?_
            rintro e w5 ⟨rfl, hb⟩
            have O5 := Hd.mk (O4.out.below hb)
            have W5 := Hd.mk (W4.out.below hb)
            have B5 := Hd.mk (B4.out.trans (hb.mono S4.out))
            clear hb q0 q1 q2 q3 q4 q5 q6 z5
            go_wp2_with fail
            go_meet
            exact ⟨rfl, O5, W5, B5⟩
          · have W3 := Hd.mk (OW.out.mono (Nat.le_succ_of_le (Nat.le_of_lt GB.out)))
            have T3 := Hd.mk (HT.out.below B3.out)
            have n2 : ∀ z : Int, (z == z) = true := fun z => beq_self_eq_true z
            clear OW FZ3
            rcases h1 with ⟨b2, b4, b6, b5⟩ | ⟨b2, b4, b6, b5, b7⟩ | ⟨b2, b4, b6, b5, b7, b8⟩ | ⟨b2, b4, b6, b5, b7, b8, b9⟩ | ⟨b2, b4, b6, b5, b7, b8, b9, b10⟩ | ⟨b2, b4, b6, b5, b7, b8, b9, b10⟩
            · obtain ⟨C, hC⟩ : ∃ C, lenB F = C := ⟨_, rfl⟩
              have hFl := HFl.out
              have C5 := Hd.mk (bytes_e _ F C w3 O3.out.rd (by omega) hC)
              have D5 := Hd.mk fun W (h : Rd W (.slice A3 n c3) F) => dBytes_e _ F C W h (by omega) hC
              clear hC hFl
              go_wp2_with fail
              refine C5.out.mono ?_
              rintro e w5 ⟨A5, c5, rfl, ho, hb⟩
              have R5 := Hd.mk ho.rd
              have O5 := Hd.mk (O3.out.below hb)
              have W5 := Hd.mk (W3.out.below hb)
              have B5 := Hd.mk (bel_call0 B3.out hb)
              clear ho hb q0 q1 q2 q3 q4 q5 q6 C5 O3 W3 B3
              go_wp2_with fail
              refine (D5.out _ W5.out.rd).mono ?_
              rintro e w6 ⟨A6', c6', rfl, ho, hb⟩
              have R6 := Hd.mk ho.rd
              have R56 := Hd.mk (R5.out.below hb)
              have O6 := Hd.mk (O5.out.below hb)
              have W6 := Hd.mk (W5.out.below hb)
              have B6 := Hd.mk (bel_call0 B5.out hb)
              clear ho hb D5 O5 W5 B5 R5
              go_wp2_with fail
              refine (same_any _ _ C C true _ R56.out R6.out (by simp)).mono ?_
              rintro e w7 ⟨rfl, hb⟩
              have O7 := Hd.mk (O6.out.below hb)
              have W7 := Hd.mk (W6.out.below hb)
              have B7 := Hd.mk (bel_call0 B6.out hb)
              clear hb
              go_wp2_with fail
              go_meet
              exact ⟨rfl, O7, W7, B7⟩
            · obtain ⟨d, hd⟩ : ∃ d, crc F = d := ⟨_, rfl⟩
              have C7 := Hd.mk (sum_e _ [F] d (w3.alloc (.cells #[.slice (some ⟨wc.heap.size, 0, none⟩) n n] 22)) (RdL.new1 O3.out.rd) (T3.out.alloc _) (by rw [show [F].flatten = F by simp]; exact hd))
              have H7 := Hd.mk fun W (h : Rd W (.slice (some ⟨wc.heap.size, 0, none⟩) n n) F) => halves_any _ n n F W h
              have E7 := Hd.mk fun W V (h : RdL W V [F.take (F.length / 2), F.drop (F.length / 2)]) (hT : TabOk W) => sum_e V _ d W h hT (by rw [show [F.take (F.length / 2), F.drop (F.length / 2)].flatten = F by simp]; exact hd)
              have D7 := Hd.mk fun W (h : Rd W (.slice A3 n c3) F) => dSum_e _ F d W h hd
              clear hd
              go_wp2_with fail
              refine C7.out.mono ?_
              rintro e w5 ⟨rfl, hb0⟩
              have hb : Below w3.heap.size w3 w5 := bel_call (Below.refl _ _) _ hb0
              have O5 := Hd.mk (O3.out.below hb)
              have W5 := Hd.mk (W3.out.below hb)
              have B5 := Hd.mk (bel_call0 B3.out hb)
              clear hb hb0 q0 q1 q2 q3 q4 q5 q6 C7 O3 W3 B3 T3
              go_wp2_with fail
              refine (D7.out _ W5.out.rd).mono ?_
              rintro e w' ⟨rfl, rfl⟩
              go_wp2_with fail
              refine (H7.out _ O5.out.rd).mono ?_
              rintro e w6 ⟨A6', c6', rfl, hr, hb⟩
              have R6 := Hd.mk hr
              have O6 := Hd.mk (O5.out.below hb)
              have W6 := Hd.mk (W5.out.below hb)
              have B6 := Hd.mk (bel_call0 B5.out hb)
              clear hb hr H7 O5 W5 B5
              go_wp2_with fail
              refine (E7.out _ _ R6.out (HT.out.below B6.out)).mono ?_
              rintro e w7 ⟨rfl, hb⟩
              have O7 := Hd.mk (O6.out.below hb)
              have W7 := Hd.mk (W6.out.below hb)
              have B7 := Hd.mk (bel_call0 B6.out hb)
              clear hb E7 O6 W6 B6 R6
              go_wp2_with fail
              refine (D7.out _ W7.out.rd).mono ?_
              rintro e w' ⟨rfl, rfl⟩
              go_wp2_with fail
              go_meet
              exact ⟨rfl, O7, W7, B7⟩
            · obtain ⟨Y, hY⟩ : ∃ Y, frmOut F = Y := ⟨_, rfl⟩
              obtain ⟨er, he⟩ : ∃ er, frmErr F = er := ⟨_, rfl⟩
              have C7 := Hd.mk (frame_e _ [F] F Y er (w3.alloc (.cells #[.slice (some ⟨wc.heap.size, 0, none⟩) n n] 22)) (RdL.new1 O3.out.rd) (T3.out.alloc _) (by simp) he hY)
              have H7 := Hd.mk fun W (h : Rd W (.slice (some ⟨wc.heap.size, 0, none⟩) n n) F) => halves_any _ n n F W h
              have E7 := Hd.mk fun W V (h : RdL W V [F.take (F.length / 2), F.drop (F.length / 2)]) (hT : TabOk W) => frame_e V _ F Y er W h hT (by simp) he hY
              have D7 := Hd.mk fun W (h : Rd W (.slice A3 n c3) F) => dFrame_e _ F Y er W h he hY
              clear he hY
              go_wp2_with fail
              refine C7.out.mono ?_
              rintro e w5 ⟨A5, c5, rfl, ho, hb0⟩
              have hb : Below w3.heap.size w3 w5 := bel_call (Below.refl _ _) _ hb0
              have R5 := Hd.mk ho.rd
              have O5 := Hd.mk (O3.out.below hb)
              have W5 := Hd.mk (W3.out.below hb)
              have B5 := Hd.mk (bel_call0 B3.out hb)
              clear hb hb0 ho q0 q1 q2 q3 q4 q5 q6 C7 O3 W3 B3 T3
              go_wp2_with fail
              refine (H7.out _ O5.out.rd).mono ?_
              rintro e w6 ⟨A6', c6', rfl, hr, hb⟩
              have R6 := Hd.mk hr
              have R56 := Hd.mk (R5.out.below hb)
              have O6 := Hd.mk (O5.out.below hb)
              have W6 := Hd.mk (W5.out.below hb)
              have B6 := Hd.mk (bel_call0 B5.out hb)
              clear hb hr H7 O5 W5 B5 R5
              go_wp2_with fail
              refine (E7.out _ _ R6.out (HT.out.below B6.out)).mono ?_
              rintro e w7 ⟨A7, c7, rfl, ho, hb⟩
              have R7 := Hd.mk ho.rd
              have R57 := Hd.mk (R56.out.below hb)
              have O7 := Hd.mk (O6.out.below hb)
              have W7 := Hd.mk (W6.out.below hb)
              have B7 := Hd.mk (bel_call0 B6.out hb)
              clear hb ho E7 O6 W6 B6 R6 R56
              go_wp2_with fail
              refine (D7.out _ W7.out.rd).mono ?_
              rintro e w8 ⟨A8, c8, rfl, ho, hb⟩
              have R8 := Hd.mk ho.rd
              have R58 := Hd.mk (R57.out.below hb)
              have R78 := Hd.mk (R7.out.below hb)
              have O8 := Hd.mk (O7.out.below hb)
              have W8 := Hd.mk (W7.out.below hb)
              have B8 := Hd.mk (bel_call0 B7.out hb)
              clear hb ho D7 O7 W7 B7 R57 R7
              go_wp2_with fail
              refine (same_any _ _ Y Y true _ R58.out R8.out (by simp)).mono ?_
              rintro e w9 ⟨rfl, hb⟩
              have R89 := Hd.mk (R8.out.below hb)
              have R79 := Hd.mk (R78.out.below hb)
              have O9 := Hd.mk (O8.out.below hb)
              have W9 := Hd.mk (W8.out.below hb)
              have B9 := Hd.mk (bel_call0 B8.out hb)
              clear hb O8 W8 B8 R58 R8 R78
              go_wp2_with fail
              refine (num_any _ _).mono ?_
              rintro e w' ⟨rfl, rfl⟩
              go_wp2_with fail
              refine (same_any _ _ Y Y true _ R79.out R89.out (by simp)).mono ?_
              rintro e w10 ⟨rfl, hb⟩
              have O10 := Hd.mk (O9.out.below hb)
              have W10 := Hd.mk (W9.out.below hb)
              have B10 := Hd.mk (bel_call0 B9.out hb)
              clear hb O9 W9 B9 R79 R89
              go_wp2_with fail
              refine (num_any _ _).mono ?_
              rintro e w' ⟨rfl, rfl⟩
              go_wp2_with fail
              go_meet
              exact ⟨rfl, O10, W10, B10⟩
            · obtain ⟨Y, p, er, hE⟩ : ∃ x p er, rdF F at_ = (x, p, er) := ⟨_, _, _, rfl⟩
              have C1 := Hd.mk (readFrame_e _ F Y at_ p er w3 O3.out.rd T3.out ha hE)
              have D1 := Hd.mk fun W (h : Rd W (.slice A3 n c3) F) => dReadFrame_e _ F Y at_ p er W h ha hE
              clear hE
              go_wp2_with fail
              refine C1.out.mono ?_
              rintro e w5 ⟨A5, c5, rfl, ho, hb⟩
              have R5 := Hd.mk ho.rd
              have O5 := Hd.mk (O3.out.below hb)
              have W5 := Hd.mk (W3.out.below hb)
              have B5 := Hd.mk (bel_call0 B3.out hb)
              have f3 := (HX3.out.below hb) 3 _ rfl
              clear ho hb q0 q1 q2 q3 q4 q5 q6 C1 O3 W3 B3
              go_wp2_with fail
              refine (D1.out _ W5.out.rd).mono ?_
              rintro e w6 ⟨A6', c6', rfl, ho, hb⟩
              have R6 := Hd.mk ho.rd
              have R56 := Hd.mk (R5.out.below hb)
              have O6 := Hd.mk (O5.out.below hb)
              have W6 := Hd.mk (W5.out.below hb)
              have B6 := Hd.mk (bel_call0 B5.out hb)
              clear ho hb D1 O5 W5 B5 R5 f3
              go_wp2_with fail
              refine (same_any _ _ Y Y true _ R56.out R6.out (by simp)).mono ?_
              rintro e w7 ⟨rfl, hb⟩
              have O7 := Hd.mk (O6.out.below hb)
              have W7 := Hd.mk (W6.out.below hb)
              have B7 := Hd.mk (bel_call0 B6.out hb)
              clear hb
              go_wp2_with (go_at_call 24; refine (num_any _ _).mono ?_; rintro e w' ⟨rfl, rfl⟩)
              go_meet
              exact ⟨rfl, O7, W7, B7⟩
            · obtain ⟨Ys, p, hE⟩ := RunsI.exists_ F at_
              have hFl := HFl.out
              have C1 := Hd.mk (readFrames_e _ F at_ p Ys w3 O3.out.rd T3.out (by omega) hE)
              have D1 := Hd.mk fun W (h : Rd W (.slice A3 n c3) F) => dReadFrames_e _ F at_ p Ys W h (by omega) hE
              clear hE hFl
              go_wp2_with fail
              refine C1.out.mono ?_
              rintro e w5 ⟨A5, c5, rfl, ho, hb⟩
              have R5 := Hd.mk ho
              have O5 := Hd.mk (O3.out.below hb)
              have W5 := Hd.mk (W3.out.below hb)
              have B5 := Hd.mk (bel_call0 B3.out hb)
              have f3 := (HX3.out.below hb) 3 _ rfl
              clear ho hb q0 q1 q2 q3 q4 q5 q6 C1 O3 W3 B3
              go_wp2_with fail
              refine (D1.out _ W5.out.rd).mono ?_
              rintro e w6 ⟨A6', c6', rfl, ho, hb⟩
              have R6 := Hd.mk ho
              have R56 := Hd.mk (R5.out.below hb)
              have O6 := Hd.mk (O5.out.below hb)
              have W6 := Hd.mk (W5.out.below hb)
              have B6 := Hd.mk (bel_call0 B5.out hb)
              clear ho hb D1 O5 W5 B5 R5 f3
              go_wp2_with fail
              refine (sameAll_any _ _ Ys Ys true _ R56.out R6.out (by simp)).mono ?_
              rintro e w7 ⟨rfl, hb⟩
              have O7 := Hd.mk (O6.out.below hb)
              have W7 := Hd.mk (W6.out.below hb)
              have B7 := Hd.mk (bel_call0 B6.out hb)
              clear hb
              go_wp2_with fail
              go_meet
              exact ⟨rfl, O7, W7, B7⟩
            · go_wp2_with fail
              go_meet
              exact ⟨rfl, O3, W3, B3⟩
        case rest =>
          obtain ⟨rfl, O4, OW4, B4⟩ := hcut
          clear q0 q1 q2 q3 q4 q5 q6 HX3 FZ3 O3 OW B3 G3
          go_wp2_with fail
          refine (same_any _ _ F F true _ O4.out.rd OW4.out.rd (by simp)).mono ?_
          rintro e w5 ⟨rfl, hb⟩
          have O5 := Hd.mk (O4.out.below hb)
          have B5 := Hd.mk (bel_call0 B4.out hb)
          clear hb O4 OW4 B4
          go_wp2_with fail
          go_roundw
          case rel => exact ⟨k + 1, F, by go_num, by omega, HFl, O5, B5⟩
          case measure => simp [intOf]; omega
      · clear HO HZ
        go_wp2_with fail
        refine (started_any _).mono ?_
        rintro e w5 ⟨rfl, hb⟩
        have B5 := Hd.mk (bel_call0 HB.out hb)
        clear hb
        go_wp2
        go_ret
        exact ⟨rfl, B5.out⟩

end Go.Proofs.YtbobigaifkffoaaDoor
