import Derived.Test.YtbobigaifkffoaaDoorL13
namespace Go.Proofs.YtbobigaifkffoaaDoor
open Go.RowKit
set_option linter.unusedVariables false
set_option linter.unusedSimpArgs false

def good (Ns : List (List UInt8)) (j : Nat) : List (List UInt8) := (Ns.take j).filter sound
theorem good_yes {Ns : List (List UInt8)} {j : Nat} {M : List UInt8} (h : Ns[j]? = some M) (hs : sound M = true) : good Ns (j + 1) = good Ns j ++ [M] := by
  obtain ⟨hj, rfl⟩ := List.getElem?_eq_some_iff.1 h
  unfold good
  rw [List.take_succ_eq_append_getElem hj, List.filter_append]
  simp [hs]
theorem good_no {Ns : List (List UInt8)} {j : Nat} {M : List UInt8} (h : Ns[j]? = some M) (hs : sound M = false) : good Ns (j + 1) = good Ns j := by
  obtain ⟨hj, rfl⟩ := List.getElem?_eq_some_iff.1 h
  unfold good
  rw [List.take_succ_eq_append_getElem hj, List.filter_append]
  simp [hs]
theorem good_sound (Ns : List (List UInt8)) (j : Nat) : ∀ M ∈ good Ns j, sound M = true := fun M hM => (List.mem_filter.1 hM).2
theorem filter_flat (f : List UInt8 → Bool) : ∀ Ls : List (List UInt8), (Ls.filter f).flatten.length ≤ Ls.flatten.length ∧ (Ls.filter f).length ≤ Ls.length
  | [] => by simp
  | L :: Ls => by
    have ih := filter_flat f Ls
    rw [List.filter_cons]
    split
    · simp only [List.flatten_cons, List.length_append, List.length_cons]; omega
    · simp only [List.flatten_cons, List.length_append, List.length_cons]; omega
theorem good_len (Ns : List (List UInt8)) (j : Nat) (hn : Ns.length ≤ 5000) (hf : Ns.flatten.length ≤ 4194304) : (frames (good Ns j)).length ≤ 4269304 ∧ (good Ns j).length ≤ 5000 := by
  have h1 := frames_len (good Ns j) (good_sound Ns j)
  have h2 := filter_flat sound (Ns.take j)
  have h3 := flat_le Ns j
  have h4 : (Ns.take j).length ≤ Ns.length := by rw [List.length_take]; omega
  unfold good at *
  omega

theorem frm_a : frm [97] = [1, 97, 112, 114, 119, 98, 165] := by
  have hu : uenc 1 = [1] := by rw [uenc_lo (by omega)]; rfl
  have h : lenB [97] = [1, 97] := by
    show uenc 1 ++ [97] = _
    rw [hu]; rfl
  unfold frm
  rw [h]
  decide +kernel
theorem runs_a : Runs [1, 97, 112, 114, 119, 98, 165] 0 [[97]] 7 := by
  have h := runs_frames [] [[97]] [] (by intro M hM; simp at hM; subst hM; decide) rdF_end
  have e : frames [[97]] = [1, 97, 112, 114, 119, 98, 165] := by unfold frames; simp [frm_a]
  rw [List.append_nil, List.nil_append, e] at h
  exact h

set_option maxRecDepth 100000 in
set_option maxHeartbeats 1600000 in
theorem wireStream_walk (v0 v1 v2 : Value) (A : List UInt8) (Ms : List (List UInt8)) (Q : List UInt8) (k z : Int) (w : World) (h0 : Rd w v0 A) (hA : A.length ≤ 140737488351232) (h1 : RdL w v1 Ms) (h2 : Rd w v2 Q) (hT : TabOk w) (hk : -9223372036854775808 ≤ k ∧ k ≤ 9223372036854775807) :
    Calls Tryd.prog 6 #[v0, v1, v2, .int .i64 k, .int .i64 z] w fun e w' => e = .returned (.bool true) ∧ Below w.heap.size w w' := by
  obtain ⟨A0, c0, rfl⟩ := h0.form
  obtain ⟨A2, c2, rfl⟩ := h2.form
  have H0 := Hd.mk h0
  have H2 := Hd.mk h2
  have HT := Hd.mk hT
  have C1 := Hd.mk (light_any v1 Ms w h1)
  have hQl := h2.slice.2.2.2.1
  clear h0 h1 h2 hT
  go_enter Tryd.func6, Tryd.ntmps6
  go_wp2_with fail
  refine C1.out.mono ?_
  rintro e w' ⟨Ab, m, cb, rfl, hmM, hm5, hfl, hrd, rfl⟩
  obtain ⟨Ns, hNs⟩ : ∃ Ns, Ms.take m = Ns := ⟨_, rfl⟩
  rw [hNs] at hfl hrd
  obtain ⟨_, _, e, _⟩ := hrd.form
  injection e with e1 e2 e3
  subst e2
  have HR := Hd.mk hrd
  have HFl := Hd.mk hfl
  clear hNs hmM hfl hrd e1 e3 C1
  go_wp2_with fail
  refine (part0_e _ A A A.length w H0.out (by omega) List.take_length).mono ?_
  rintro e w1 ⟨Ap, cp, rfl, hp, hb⟩
  have O1 := Hd.mk hp
  have B1 := Hd.mk hb
  clear hp hb
  go_wp2_with fail
  go_loopw [11, 12, 13] (fun bv lv iv wr => ∃ (j : Nat) (vs : List Value), iv = .int .i64 j ∧ j ≤ Ns.length ∧ Hd (Own w.heap.size wr bv (A ++ frames (good Ns j))) ∧ Hd (OwnV w.heap.size wr lv vs) ∧ Hd (vs.length = (good Ns j).length) ∧
      Hd (∀ i, i < (good Ns j).length → Rd w (vs.getD i undef) ((good Ns j).getD i [])) ∧ Hd (Below w.heap.size w wr)) (fun _ _ i _ => Ns.length - (intOf i).toNat)
  case atStart => exact ⟨0, [], rfl, by omega, ⟨by simpa [good, frames] using O1.out⟩, ⟨OwnV.nil _ _⟩, ⟨by simp [good]⟩, ⟨fun i hi => by simp [good] at hi⟩, B1⟩
  case round =>
    obtain ⟨j, vs, rfl, hj, HO, HV, HVl, HE, HB⟩ := hrel
    have HG := Hd.mk (good_len Ns j hm5 HFl.out)
    by_cases hlt : j < Ns.length
    · obtain ⟨ad, A1, c1, L1, rfl, hcell, hl1, HL1, HR1⟩ := (HR.out.below HB.out).at_ j hlt
      obtain ⟨ad', A1', c1', L1', e1', hcell', _, HL1', HR1'⟩ := HR.out.at_ j hlt
      have HSame : Hd (Rd w (.slice A1 L1.length c1) L1) := ⟨by
        injection e1' with e1'
        subst e1'
        have := cell_below HB.out hcell'
        rw [this] at hcell
        have e := HL1'.out.symm.trans HL1.out
        injection e with e
        subst e
        injection hcell with hcell
        rw [← hcell]
        exact HR1'.out⟩
      have hcellB : Hd (∀ W, Below wr.heap.size wr W → W.cell? (ad.add j) = some (.slice A1 L1.length c1)) := ⟨fun W hW => cell_below hW hcell⟩
      clear e1' hcell' HL1' HR1'
      obtain ⟨F, hF⟩ : ∃ F, frmOut L1 = F := ⟨_, rfl⟩
      obtain ⟨er, her⟩ : ∃ er, frmErr L1 = er := ⟨_, rfl⟩
      have HC := Hd.mk (frame_e _ [L1] L1 F er _ (RdL.new1 HR1.out) ((HT.out.below HB.out).alloc _) (by simp) her hF)
      by_cases hs : sound L1 = true
      · have hs' := (sound_iff L1).1 hs
        obtain rfl : er = 0 := her.symm.trans (frm_good hs'.1 hs'.2).1
        obtain rfl : F = frm L1 := hF.symm.trans (frm_good hs'.1 hs'.2).2
        have HF := Hd.mk hF
        have HS := Hd.mk hs
        obtain ⟨F, hFF⟩ : ∃ F, frm L1 = F := ⟨_, rfl⟩
        rw [hFF] at HC
        have HFF := Hd.mk hFF
        have hFl : 1 ≤ F.length ∧ F.length ≤ 1048591 := by
          have := frm_len L1
          have := uenc_len10 (v := L1.length) (Is64.mk (by omega))
          rw [hFF] at *
          omega
        have b1 : ((L1.length : Int) == 0) = false := beq_f (by omega)
        have b2 : decide (1048576 < (L1.length : Int)) = false := dec_f (by omega)
        have b3 : ((F.length : Int) == 0) = false := beq_f (by omega)
        have hs2 := hs'.2
        clear hs hs' her hF hFF
        go_wp2_with fail
        refine HC.out.mono ?_
        rintro e w2 ⟨Af, cf, rfl, hf, hb⟩
        have hbW : Below wr.heap.size wr w2 := bel_call (Below.refl _ _) _ hb
        have hcell2 := hcellB.out w2 hbW
        have RF := Hd.mk hf.rd
        have B2 := Hd.mk (bel_call0 HB.out hbW)
        have O2 := Hd.mk (HO.out.below hbW)
        have V2 := Hd.mk (HV.out.below hbW)
        have HL : Hd ((A ++ frames (good Ns j)).length + F.length ≤ 140737555464192) := ⟨by have := HG.out; rw [List.length_append]; omega⟩
        have HVll : Hd (vs.length ≤ 1099511627776) := ⟨by have := HG.out; have := HVl.out; omega⟩
        clear hf hb hbW HC hcell
        go_wp2_with (first
          | (go_at_call 24; refine (num_any _ _).mono ?_; rintro e w' ⟨rfl, rfl⟩)
          | (at_builtin; refine wpList_app rfl (.tmp 70) (.tmp 71) rfl w.heap.size _ _ _ F rfl rfl O2.out RF.out HL.out B2.out.size ?_; intro u3 w3 hown hgr; have O3 := Hd.mk hown; have V3 := Hd.mk (ownV_other V2.out O2.out hgr); have B3 := Hd.mk (bel_app0 B2.out O2.out hgr); have hcell3 : w3.cell? (ad.add j) = some (.slice A1 L1.length c1) := (World.cell?_of_block (hgr.block _ (World.block_lt_of_cell? w2 _ hcell2) (by
              intro h
              have h1 := (O2.out.2.lt _ h.symm).1
              obtain ⟨ad9, A9, c9, L9, e9, hc9, _⟩ := HR.out.at_ j hlt
              injection e9 with e9
              subst e9
              have := World.block_lt_of_cell? w _ hc9
              omega))).trans hcell2; clear hown hgr)
          | (at_builtin; refine wpList_appV rfl (.tmp 73) (.tmp 78) rfl w.heap.size _ A1 L1.length c1 _ _ vs rfl rfl (V3.out.alloc _) (cell_new22 _ _) HVll.out (hb_alloc B3.out (Nat.le_refl _) _) ?_; intro u4 w4 hown hgr; have V4 := Hd.mk hown; have O4 := Hd.mk (own_other (O3.out.alloc _) (V3.out.alloc _) hgr); have B4 := Hd.mk (bel_appV B3.out V3.out hgr); clear hown hgr))
        go_roundw
        case rel =>
          have hg := good_yes HL1.out HS.out
          refine ⟨j + 1, vs ++ [.slice A1 L1.length c1], by go_num, by omega, ⟨?_⟩, V4, ⟨?_⟩, ⟨fun i hi => ?_⟩, B4⟩
          · rw [hg, frames_snoc, ← List.append_assoc, HFF.out]; exact O4.out
          · rw [hg]; simpa using HVl.out
          · rw [hg] at hi ⊢
            have hv := HVl.out
            by_cases hid : i < (good Ns j).length
            · rw [List.getD_eq_getElem?_getD, List.getElem?_append_left (by omega), List.getD_eq_getElem?_getD, List.getElem?_append_left hid, ← List.getD_eq_getElem?_getD, ← List.getD_eq_getElem?_getD]
              exact HE.out i hid
            · have : i = (good Ns j).length := by simp at hi; omega
              subst this
              rw [List.getD_eq_getElem?_getD, List.getElem?_append_right (by omega), List.getD_eq_getElem?_getD, List.getElem?_append_right (by omega), hv, Nat.sub_self]
              exact HSame.out
        case measure => simp [intOf]; omega
      · have hs' : ¬ (L1.length ≠ 0 ∧ L1.length ≤ 1048576) := fun h => hs ((sound_iff L1).2 h)
        have hpos : 13 ≤ er := by
          by_cases hz : L1.length = 0
          · rw [(frm_empty hz).1] at her; omega
          · rw [(frm_over (by omega)).1] at her; omega
        have HS := Hd.mk (by simpa using hs : sound L1 = false)
        have b3 : ((er : Int) == 0) = false := beq_f (by omega)
        have hrel2 : ∀ w2, Below wr.heap.size wr w2 → Own w.heap.size w2 _ (A ++ frames (good Ns j)) ∧ OwnV w.heap.size w2 _ vs ∧ Below w.heap.size w w2 := fun w2 hb => ⟨HO.out.below hb, HV.out.below hb, bel_call0 HB.out hb⟩
        have HR2 := Hd.mk hrel2
        have hg : Hd (good Ns (j + 1) = good Ns j) := ⟨good_no HL1.out HS.out⟩
        clear hrel2 her hF hs
        have hcase : L1.length = 0 ∨ 1048576 < L1.length := by omega
        clear hs'
        rcases hcase with hz | hz
        · have b1 : ((L1.length : Int) == 0) = true := beq_t (by omega)
          clear hz
          go_wp2_with fail
          refine HC.out.mono ?_
          rintro e w2 ⟨Af, cf, rfl, hf, hb⟩
          have hbW : Below wr.heap.size wr w2 := bel_call (Below.refl _ _) _ hb
          have hcell2 := hcellB.out w2 hbW
          have R2 := Hd.mk (HR2.out w2 hbW)
          clear hf hb hbW HC hcell
          go_wp2_with (go_at_call 24; refine (num_any _ _).mono ?_; rintro e w' ⟨rfl, rfl⟩)
          go_roundw
          case rel => exact ⟨j + 1, vs, by go_num, by omega, ⟨by rw [hg.out]; exact R2.out.1⟩, ⟨R2.out.2.1⟩, ⟨by rw [hg.out]; exact HVl.out⟩, ⟨by rw [hg.out]; exact HE.out⟩, ⟨R2.out.2.2⟩⟩
          case measure => simp [intOf]; omega
        · have b1 : ((L1.length : Int) == 0) = false := beq_f (by omega)
          have b2 : decide (1048576 < (L1.length : Int)) = true := dec_t (by omega)
          clear hz
          go_wp2_with fail
          refine HC.out.mono ?_
          rintro e w2 ⟨Af, cf, rfl, hf, hb⟩
          have hbW : Below wr.heap.size wr w2 := bel_call (Below.refl _ _) _ hb
          have hcell2 := hcellB.out w2 hbW
          have R2 := Hd.mk (HR2.out w2 hbW)
          clear hf hb hbW HC hcell
          go_wp2_with (go_at_call 24; refine (num_any _ _).mono ?_; rintro e w' ⟨rfl, rfl⟩)
          go_roundw
          case rel => exact ⟨j + 1, vs, by go_num, by omega, ⟨by rw [hg.out]; exact R2.out.1⟩, ⟨R2.out.2.1⟩, ⟨by rw [hg.out]; exact HVl.out⟩, ⟨by rw [hg.out]; exact HE.out⟩, ⟨R2.out.2.2⟩⟩
          case measure => simp [intOf]; omega
    · obtain ⟨G, hG⟩ : ∃ G, good Ns j = G := ⟨_, rfl⟩
      have hgs : ∀ M ∈ G, sound M = true := by rw [← hG]; exact good_sound Ns j
      rw [hG] at HO HVl HE HG
      have HGs := Hd.mk hgs
      obtain ⟨D, hD⟩ : ∃ D, A ++ frames G = D := ⟨_, rfl⟩
      rw [hD] at HO
      have hDl : D.length ≤ 140737488351232 + 4269304 := by rw [← hD, List.length_append]; have := HG.out; omega
      have HD := Hd.mk hD
      obtain ⟨Ao, co, rfl⟩ := HO.out.rd.form
      obtain ⟨Al, cl, rfl, _⟩ := HV.out.form
      obtain ⟨F, hF⟩ : ∃ F, frmOut Q = F := ⟨_, rfl⟩
      obtain ⟨er, her⟩ : ∃ er, frmErr Q = er := ⟨_, rfl⟩
      have HC := Hd.mk (frame_e _ [Q] Q F er _ (RdL.new1 (H2.out.below HB.out)) ((HT.out.below HB.out).alloc _) (by simp) her hF)
      have hFl : F.length ≤ 1048591 := by
        by_cases hz : Q.length = 0
        · rw [← hF, (frm_empty hz).2]; simp
        · by_cases hz2 : Q.length ≤ 1048576
          · rw [← hF, (frm_good hz hz2).2, frm_len]
            have := uenc_len10 (v := Q.length) (Is64.mk (by omega))
            omega
          · rw [← hF, (frm_over (by omega)).2]; simp
      have HTorn : Hd (∀ (i q : Nat), i < F.length → ∀ P : List UInt8, (rdF (P ++ (F.take i ++ List.replicate q 0)) P.length).2.2 ≠ 0) := ⟨fun i q hi P => by
        by_cases hz : Q.length = 0
        · rw [← hF, (frm_empty hz).2] at hi; simp at hi
        · by_cases hz2 : Q.length ≤ 1048576
          · rw [← hF, (frm_good hz hz2).2] at hi ⊢
            exact rdF_torn P Q hz2 hz i q hi
          · rw [← hF, (frm_over (by omega)).2] at hi; simp at hi⟩
      clear hG hgs hD hF her
      go_wp2_with fail
      refine HC.out.mono ?_
      rintro e w2 ⟨Af, cf, rfl, hf, hb⟩
      have hbW : Below wr.heap.size wr w2 := bel_call (Below.refl _ _) _ hb
      have RF := Hd.mk hf.rd
      have O2 := Hd.mk (HO.out.below hbW)
      have V2 := Hd.mk (HV.out.below hbW)
      have B2 := Hd.mk (bel_call0 HB.out hbW)
      clear hf hb hbW HC HO HV HB O1 B1
      by_cases c1 : k < 0
      case' pos =>
        have d1 : decide (0 ≤ k) = false := dec_f (by omega)
        obtain ⟨T, hTT⟩ : ∃ T : List UInt8, [] = T := ⟨_, rfl⟩
        have HO : Hd (Own w.heap.size w2 (.slice Ao D.length co) (D ++ T)) := ⟨by rw [← hTT, List.append_nil]; exact O2.out⟩
        have hTl : T.length ≤ 3145743 := by rw [← hTT]; simp
        have HTo : Hd (∀ P : List UInt8, (rdF (P ++ T) P.length).2.2 ≠ 0) := ⟨by rw [← hTT]; exact rdF_end⟩
        have HV := V2
        have HB := B2
        clear hTT O2 V2 B2 HTorn RF
        obtain ⟨E, hE⟩ : ∃ E, D ++ T = E := ⟨_, rfl⟩
        have HEE := Hd.mk hE
        rw [hE] at HO
        clear hE
        obtain ⟨At, ct, e, _⟩ := HO.out.rd
        rw [e] at HO
        have HDT := Hd.mk e
        clear e
        go_wp2_with fail
      case' neg =>
        obtain ⟨a, rfl⟩ : ∃ a : Nat, k = a := ⟨k.toNat, by omega⟩
        have d1 : decide (0 ≤ (a : Int)) = true := dec_t (by omega)
        by_cases c2 : F.length ≤ a
        case' pos =>
          have d2 : decide ((a : Int) < (F.length : Int)) = false := dec_f (by omega)
          have d3 : decide (a < F.length) = false := dec_f (by omega)
          obtain ⟨T, hTT⟩ : ∃ T : List UInt8, [] = T := ⟨_, rfl⟩
          have HO : Hd (Own w.heap.size w2 (.slice Ao D.length co) (D ++ T)) := ⟨by rw [← hTT, List.append_nil]; exact O2.out⟩
          have hTl : T.length ≤ 3145743 := by rw [← hTT]; simp
          have HTo : Hd (∀ P : List UInt8, (rdF (P ++ T) P.length).2.2 ≠ 0) := ⟨by rw [← hTT]; exact rdF_end⟩
          have HV := V2
          have HB := B2
          clear hTT O2 V2 B2 HTorn RF
          obtain ⟨E, hE⟩ : ∃ E, D ++ T = E := ⟨_, rfl⟩
          have HEE := Hd.mk hE
          rw [hE] at HO
          clear hE
          obtain ⟨At, ct, e, _⟩ := HO.out.rd
          rw [e] at HO
          have HDT := Hd.mk e
          clear e
          go_wp2_with fail
        case' neg =>
          have d2 : decide ((a : Int) < (F.length : Int)) = true := dec_t (by omega)
          have d3 : decide (a < F.length) = true := dec_t (by omega)
          obtain ⟨X, hX⟩ : ∃ X, F.take a = X := ⟨_, rfl⟩
          have hXl : X.length ≤ 1048591 := by rw [← hX, List.length_take]; omega
          have HX := Hd.mk hX
          clear hX
          go_wp2_with fail
          refine (part0_e _ F X a w2 RF.out (by omega) HX.out).mono ?_
          rintro e w3 ⟨Ax, cx, rfl, hx, hb⟩
          have RX := Hd.mk hx.rd
          have O3 := Hd.mk (O2.out.below hb)
          have V3 := Hd.mk (V2.out.below hb)
          have B3 := Hd.mk (bel_call0 B2.out hb)
          have HL : Hd (D.length + X.length ≤ 140737555464192) := ⟨by omega⟩
          clear hx hb O2 V2 B2
          go_upto_block 2 with (at_builtin; refine wpList_app rfl (.tmp 96) (.tmp 99) rfl w.heap.size _ _ _ X rfl rfl O3.out RX.out HL.out B3.out.size ?_; intro u4 w4 hown hgr; have O4 := Hd.mk hown; have V4 := Hd.mk (ownV_other V3.out O3.out hgr); have B4 := Hd.mk (bel_app0 B3.out O3.out hgr); clear hown hgr)
          go_cut [11] (fun bv wc => ∃ T : List UInt8, Hd (Own w.heap.size wc bv (D ++ T)) ∧ T.length ≤ 3145743 ∧ Hd (∀ P : List UInt8, (rdF (P ++ T) P.length).2.2 ≠ 0) ∧ Hd (OwnV w.heap.size wc (.slice Al vs.length cl) vs) ∧ Hd (Below w.heap.size w wc))
          case first =>
            go_wp2_with fail
            go_loopw [11, 19] (fun bv iv wr => ∃ (i : Nat), iv = .int .i64 i ∧ i ≤ 2097152 ∧ Hd (Own w.heap.size wr bv (D ++ (X ++ List.replicate i 0))) ∧ Hd (OwnV w.heap.size wr (.slice Al vs.length cl) vs) ∧ Hd (Below w.heap.size w wr)) (fun _ iv _ => 2097152 - (intOf iv).toNat)
            case atStart => exact ⟨0, rfl, by omega, ⟨by simpa using O4.out⟩, V4, B4⟩
            case round =>
              clear O3 V3 B3 O4 V4 B4
              obtain ⟨i, rfl, hi, HO, HV, HB⟩ := hrel
              have hto : ∀ P : List UInt8, (rdF (P ++ (X ++ List.replicate i 0)) P.length).2.2 ≠ 0 := by rw [← HX.out]; exact HTorn.out a i (by omega)
              have HTo := Hd.mk hto
              clear hto
              by_cases c3 : (i : Int) < z
              · have d4 : decide ((i : Int) < z) = true := dec_t c3
                by_cases c4 : i < 2097152
                · have d5 : decide ((i : Int) < 2097152) = true := dec_t (by omega)
                  have hle : ∀ x : UInt8, (D ++ (X ++ List.replicate i 0)).length + [x].length ≤ 140737555464192 := by intro x; simp; omega
                  have HLe := Hd.mk hle
                  clear hle
                  go_wp2_with (at_builtin; refine wpList_app rfl _ _ rfl w.heap.size _ _ _ [0] rfl rfl (HO.out.alloc _) (Rd.new1 _ _ 0 rfl) (HLe.out _) (hb_alloc HB.out (Nat.le_refl _) _) ?_; intro u5 w5 hown hgr; have O5 := Hd.mk hown; have V5 := Hd.mk (ownV_other (HV.out.alloc _) (HO.out.alloc _) hgr); have B5 := Hd.mk (bel_app HB.out HO.out hgr); clear hown hgr)
                  go_roundw
                  case rel => exact ⟨i + 1, by go_num, by omega, ⟨by rw [List.replicate_succ']; simpa using O5.out⟩, V5, B5⟩
                  case measure => simp [intOf]; omega
                · have d5 : decide ((i : Int) < 2097152) = false := dec_f (by omega)
                  go_wp2
                  go_meet
                  case rel => exact ⟨X ++ List.replicate i 0, HO, by simp; omega, HTo, HV, HB⟩
              · have d4 : decide ((i : Int) < z) = false := dec_f c3
                go_wp2
                go_meet
                case rel => exact ⟨X ++ List.replicate i 0, HO, by simp; omega, HTo, HV, HB⟩
          case' rest =>
            clear O3 V3 B3 O4 V4 B4 HTorn RF RX
            obtain ⟨T, HO, hTl, HTo, HV, HB⟩ := hcut
            obtain ⟨E, hE⟩ : ∃ E, D ++ T = E := ⟨_, rfl⟩
            have HEE := Hd.mk hE
            rw [hE] at HO
            clear hE
            obtain ⟨At, ct, rfl, _⟩ := HO.out.rd
            have HDT : Hd (True) := ⟨trivial⟩
            go_wp2_with fail
      all_goals
        try rw [HDT.out]
        have hr := runs_frames T G A HGs.out HTo.out
        rw [HD.out, HEE.out] at hr
        have hEl : E.length = D.length + T.length := by rw [← HEE.out, List.length_append]
        have hDA : D.length = A.length + (frames G).length := by rw [← HD.out, List.length_append]
        have hGb := HG.out
        refine (readFrames_any _ E A.length D.length G _ HO.out.rd (HT.out.below HB.out) (by omega) (by omega) hr).mono ?_
        rintro e w5 ⟨Ag, cg, us, rfl, hul, hus, hue, hud, hb⟩
        have HVl2 := HVl.out
        have hRu : RdL w5 (.slice Ag us.length cg) G := hus.rdl hul (by omega) fun i hi => (hue i hi).rd
        have hRl : RdL w5 (.slice Al vs.length cl) G := (HV.out.below hb).rdl HVl2 (by omega) fun i hi => (HE.out i hi).below (bel_call0 HB.out hb)
        have RU := Hd.mk hRu
        have RL := Hd.mk hRl
        have B5 := Hd.mk (bel_call0 HB.out hb)
        have t1 : ((D.length : Int) == (D.length : Int)) = true := beq_self_eq_true _
        clear hr hus hue hud hb hRu hRl HO HV HB HTo hul HVl2
        go_wp2_with fail
        refine (readFrames_any _ [1, 97, 112, 114, 119, 98, 165] 0 7 [[97]] _ (Rd.atN _ 7 _ rfl rfl rfl (by simp)) ((HT.out.below B5.out).alloc _) (by simp) (by simp) runs_a).mono ?_
        rintro e w6 ⟨Ah, ch, xs, rfl, hxl, hxs, hxe, hxd, hb⟩
        have hbW : Below w5.heap.size w5 w6 := bel_call (Below.refl _ _) _ hb
        have RU6 := Hd.mk (RU.out.below hbW)
        have RL6 := Hd.mk (RL.out.below hbW)
        have B6 := Hd.mk (bel_call0 B5.out hbW)
        have hx1 : xs.length = 1 := hxl
        clear hxs hxe hxd hb hbW RU RL
        go_wp2_with fail
        refine (sameAll_any _ _ G G true w6 RU6.out RL6.out (by simp)).mono ?_
        rintro e w7 ⟨rfl, hb⟩
        have B7 := Hd.mk (bel_call0 B6.out hb)
        clear hb
        go_wp2
        go_ret
        exact ⟨rfl, B7.out⟩

end Go.Proofs.YtbobigaifkffoaaDoor
