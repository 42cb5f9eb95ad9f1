/-
  THE WALK of the law WireOwn.
-/
import Derived.Test.YtbobigaifkffoaaDoorL38
namespace Go.Proofs.YtbobigaifkffoaaDoor
open Go.RowKit
set_option linter.unusedVariables false
set_option linter.unusedSimpArgs false

set_option maxRecDepth 100000 in
set_option maxHeartbeats 6000000 in
/-- 'WireOwn': true for every input. -/
theorem wireOwn_walk (u : Nat) (i : Int) (vp : Value) (Ls : List (List UInt8)) (w : World) (hp : RdL w vp Ls) (hT : TabOk w) (hu : Is64 u) (hi : -9223372036854775808 ≤ i ∧ i ≤ 9223372036854775807) :
    Calls Tryd.prog 10 #[.int .u64 u, .int .i64 i, vp] w fun e w' => e = .returned (.bool true) ∧ Below w.heap.size w w' := by
  obtain ⟨A, cap, rfl, hls⟩ := hp.form
  have HP := Hd.mk hp
  have HT := Hd.mk hT
  clear hp hT
  go_enter Tryd.func10, Tryd.ntmps10
  go_wp2_with fail
  refine (light_any _ Ls w HP.out).mono ?_
  rintro e w' ⟨A2, m, c2, rfl, hm, hm5, hfl, hr, rfl⟩
  obtain ⟨Lb, hLb⟩ : ∃ Lb, Ls.take m = Lb := ⟨_, rfl⟩
  obtain rfl : Lb.length = m := by rw [← hLb, List.length_take]; omega
  rw [hLb] at hfl hr
  have HPb := Hd.mk hr
  clear hLb hr HP hm
  go_wp2_with fail
  go_loopw [7, 8] (fun bv ix wr => ∃ (k : Nat) (bl : List UInt8), ix = .int .i64 k ∧ k ≤ Lb.length ∧ Hd (Own w.heap.size wr bv bl) ∧ Hd (bl.length ≤ (Lb.take k).flatten.length + 20 * k) ∧ Hd (Below w.heap.size w wr)) (fun _ ix _ => Lb.length - (intOf ix).toNat)
  case atStart => exact ⟨0, [], rfl, by omega, ⟨Own.nil _ _⟩, ⟨by simp⟩, ⟨Below.refl _ _⟩⟩
  case round =>
    obtain ⟨k, bl, rfl, hk, HO, HL, HB⟩ := hrel
    by_cases hlt : k < Lb.length
    · obtain ⟨ad, A1, c1, L1, rfl, hcell, hl1, HL1, HR1⟩ := (HPb.out.below HB.out).at_ k hlt
      obtain ⟨F, hF⟩ : ∃ F, frmOut L1 = F := ⟨_, rfl⟩
      obtain ⟨er, he⟩ : ∃ er, frmErr L1 = er := ⟨_, rfl⟩
      have hFl := frmOut_le L1
      rw [hF] at hFl
      have HLn : Hd ((bl ++ F).length ≤ (Lb.take (k + 1)).flatten.length + 20 * (k + 1)) := ⟨by
        rw [flat_snoc Lb k L1 HL1.out, List.length_append, List.length_append]
        have := HL.out
        omega⟩
      have HLq : Hd (bl.length + F.length ≤ 140737555464192) := ⟨by
        have h1 := HLn.out
        have h2 := flat_take Lb (k + 1)
        rw [List.length_append] at h1
        omega⟩
      have CF := Hd.mk (frame_e _ [L1] L1 F er (wr.alloc (.cells #[.slice A1 L1.length c1] 22)) (RdL.new1 HR1.out) ((HT.out.below HB.out).alloc _) (by simp) he hF)
      clear hF he hFl
      go_wp2_with fail
      refine CF.out.mono ?_
      rintro e w4 ⟨A4, c4, rfl, ho, hb0⟩
      have hb : Below wr.heap.size wr w4 := bel_call (Below.refl _ _) _ hb0
      have RF := Hd.mk ho.rd
      have O4 := Hd.mk (HO.out.below hb)
      have B4 := Hd.mk (bel_call0 HB.out hb)
      clear hb hb0 ho CF HO HB hcell
      go_wp2_with (at_builtin; refine wpList_app rfl (.tmp 38) (.tmp 39) rfl w.heap.size _ _ bl F rfl rfl O4.out RF.out HLq.out B4.out.size ?_; intro u5 w5 hown hgr; have O5 := Hd.mk hown; have B5 := Hd.mk (bel_app0 B4.out O4.out hgr); clear hown hgr)
      go_roundw
      case rel => exact ⟨k + 1, bl ++ F, by go_num, by omega, O5, HLn, B5⟩
      case measure => simp [intOf]; omega
    · obtain rfl : k = Lb.length := by omega
      obtain ⟨Ab, cb, rfl⟩ := HO.out.rd.form
      have hbl : bl.length ≤ 4294304 := by
        have h1 := HL.out
        have h2 := flat_take Lb Lb.length
        omega
      obtain ⟨Bs, q, hRuns⟩ := Runs.exists_ bl bl.length 0 (by omega)
      have hbd := hRuns.bound
      obtain ⟨As, hAs⟩ : ∃ As, ansL u i Lb ++ Bs = As := ⟨_, rfl⟩
      have hAl : As.length ≤ 5000000 := by rw [← hAs, List.length_append, ansL_len]; omega
      have HAb : Hd (∀ X ∈ As, X.length ≤ 4400000) := ⟨fun X hX => by
        rw [← hAs, List.mem_append] at hX
        rcases hX with hX | hX
        · have := ansL_le hu hi (len_of_flatten hfl) X hX; omega
        · exact len_of_flatten (n := 4400000) (by omega) X hX⟩
      obtain ⟨U, hU⟩ : ∃ U, uenc u = U := ⟨_, rfl⟩
      obtain ⟨I, hI⟩ : ∃ I, uenc (zig i) = I := ⟨_, rfl⟩
      have HA0 : Hd (As.getD 0 [] = U ∧ As.getD 1 [] = I) := ⟨by rw [← hAs, ← hU, ← hI]; exact ⟨rfl, rfl⟩⟩
      have hA2 : 2 ≤ As.length := by rw [← hAs, List.length_append, ansL_len]; omega
      have u0 : ((U.length : Int) == 0) = false := beq_f (by have := uenc_pos u; rw [hU] at this; omega)
      have u1 : ((I.length : Int) == 0) = false := beq_f (by have := uenc_pos (zig i); rw [hI] at this; omega)
      have CA := Hd.mk fun W (h1 : RdL W (.slice A2 Lb.length c2) Lb) (h2 : Rd W (.slice Ab bl.length cb) bl) (h3 : TabOk W) => (show Calls Tryd.prog 40 #[.int .u64 u, .int .i64 i, .slice A2 Lb.length c2, .slice Ab bl.length cb] W (OutA As W) by
        have := answers_any u i _ _ Lb Bs bl q W h1 h2 h3 hu hi hm5 hfl (by omega) hRuns
        rwa [hAs] at this)
      clear hRuns hbd hAs hU hI hu HL
      go_wp2_with fail
      refine (part0_e _ bl bl bl.length wr HO.out.rd (by omega) List.take_length).mono ?_
      rintro e w1 ⟨Aw, cw, rfl, ho, hb⟩
      have OW := Hd.mk ho.rd
      have OB := Hd.mk (HO.out.rd.below hb)
      have B1 := Hd.mk (bel_call0 HB.out hb)
      clear ho hb HO HB
      go_wp2_with fail
      refine (kept_any _ Lb w1 (HPb.out.below B1.out) (by omega)).mono ?_
      rintro e w2 ⟨Ak, ck, is, rfl, hkl, hv, he, hb⟩
      have KIn : Hd (RdL w2 (.slice Ak is.length ck) Lb) := ⟨hv.rdl hkl (by omega) fun j hj => (he j hj).rd⟩
      have KB := Hd.mk (OB.out.below hb)
      have KW := Hd.mk (OW.out.below hb)
      have B2 := Hd.mk (bel_call0 B1.out hb)
      have KP := Hd.mk (HPb.out.below B2.out)
      have KT := Hd.mk (HT.out.below B2.out)
      clear hkl hv he hb OB OW B1 HPb
      go_wp2_with fail
      refine (CA.out w2 KP.out KB.out KT.out).mono ?_
      rintro e w3 ⟨A3, c3, vs1, rfl, hv, hr, hb⟩
      have V1 := Hd.mk hv
      have R1 := Hd.mk hr
      have D3 := Hd.mk hb
      have L1 : Hd (∀ j, j < vs1.length → ∀ q, (vs1.getD j undef).ownBlock = some q → q < w3.heap.size) := ⟨fun j hj q hq => (hr.lt j hj q hq).2⟩
      have LV1 : Hd (∀ q, (Value.slice A3 vs1.length c3).ownBlock = some q → q < w3.heap.size) := ⟨fun q hq => (World.ownsRow.lt hv q hq).2⟩
      have hv1 : vs1.length = As.length := hr.1
      have HV1 := Hd.mk hv1
      clear hv hr hb hv1
      go_wp2_with fail
      refine (kept_any _ As w3 (R1.out.rdl V1.out (by omega)) (by omega)).mono ?_
      rintro e w4 ⟨A4, c4, ks, rfl, hkl, hv, he, hb⟩
      have VK := Hd.mk hv
      have EK := Hd.mk he
      have HKl := Hd.mk hkl
      have LK : Hd (∀ j, j < As.length → ∀ q, (ks.getD j undef).ownBlock = some q → w3.heap.size ≤ q ∧ q < w4.heap.size) := ⟨fun j hj q hq => (he j hj).2.lt q hq⟩
      replace V1 := Hd.mk (V1.out.below hb)
      replace R1 := Hd.mk (R1.out.below hb)
      have D4 := Hd.mk (bel_call0 D3.out hb)
      have s34 : Hd (w3.heap.size ≤ w4.heap.size) := ⟨hb.size⟩
      clear hv he hkl hb D3
      go_wp2_with fail
      refine (CA.out w4 (KP.out.below D4.out) (KB.out.below D4.out) (KT.out.below D4.out)).mono ?_
      rintro e w5 ⟨A5, c5, vs2, rfl, hv, hr, hb⟩
      have V2 := Hd.mk hv
      have R2 := Hd.mk hr
      have HV2 := Hd.mk hr.1
      replace V1 := Hd.mk (V1.out.below hb)
      replace R1 := Hd.mk (R1.out.below hb)
      replace VK := Hd.mk (VK.out.below hb)
      replace EK : Hd (∀ j, j < As.length → Own w3.heap.size w5 (ks.getD j undef) (As.getD j [])) := ⟨fun j hj => (EK.out j hj).below hb⟩
      have D5 := Hd.mk (bel_call0 D4.out hb)
      have s24 : Hd (w2.heap.size ≤ w4.heap.size) := ⟨D4.out.size⟩
      clear hv hr hb D4
      obtain ⟨g1, rfl⟩ : ∃ g, A3 = some ⟨g, 0, none⟩ := by
        obtain ⟨g, e, _⟩ := V1.out.at_ 0 (vs1.getD 0 undef) (by rw [List.getD_eq_getElem?_getD, List.getElem?_eq_getElem (by have := HV1.out; omega)]; rfl)
        exact ⟨g, e⟩
      have f0 := V1.out.cellk (k := 0) (by have := HV1.out; omega)
      have f1 := V1.out.cellk (k := 1) (by have := HV1.out; omega)
      obtain ⟨a0, d0, e0⟩ := (R1.out.2.1 0 (by omega)).rd.form
      obtain ⟨a1, d1, e1⟩ := (R1.out.2.1 1 (by omega)).rd.form
      rw [e0, HA0.out.1] at f0
      rw [e1, HA0.out.2] at f1
      have i0 : (0 : Int) < (vs1.length : Int) := by have := HV1.out; omega
      have i1 : (1 : Int) < (vs1.length : Int) := by have := HV1.out; omega
      clear e0 e1 HA0
      go_wp2_with fail
      refine (sameAll_any _ _ As As true _ (R1.out.rdl V1.out (by omega)) (VK.out.rdl HKl.out (by omega) fun j hj => (EK.out j hj).rd) (by simp)).mono ?_
      rintro e w6 ⟨rfl, hb⟩
      replace V1 := Hd.mk (V1.out.below hb)
      replace R1 := Hd.mk (R1.out.below hb)
      replace VK := Hd.mk (VK.out.below hb)
      replace EK : Hd (∀ j, j < As.length → Own w3.heap.size w6 (ks.getD j undef) (As.getD j [])) := ⟨fun j hj => (EK.out j hj).below hb⟩
      replace V2 := Hd.mk (V2.out.below hb)
      replace R2 := Hd.mk (R2.out.below hb)
      have D6 := Hd.mk (bel_call0 D5.out hb)
      clear hb D5 f0 f1
      go_wp2_with fail
      refine (sameAll_any _ _ As As true _ (R2.out.rdl V2.out (by omega)) (VK.out.rdl HKl.out (by omega) fun j hj => (EK.out j hj).rd) (by simp)).mono ?_
      rintro e w7 ⟨rfl, hb⟩
      replace V1 := Hd.mk (V1.out.below hb)
      replace R1 := Hd.mk (R1.out.below hb)
      replace VK := Hd.mk (VK.out.below hb)
      replace EK : Hd (∀ j, j < As.length → Own w3.heap.size w7 (ks.getD j undef) (As.getD j [])) := ⟨fun j hj => (EK.out j hj).below hb⟩
      replace V2 := Hd.mk (V2.out.below hb)
      replace R2 := Hd.mk (R2.out.below hb)
      have D7 := Hd.mk (bel_call0 D6.out hb)
      have RJ : Hd (Ra w2.heap.size w7 (vs1 ++ vs2) (As ++ As)) := ⟨R1.out.join R2.out (fun j hj q hq => Nat.lt_of_lt_of_le (L1.out j hj q hq) s34.out) s24.out⟩
      have hl12 : Hd (vs1.length + vs2.length ≤ 1099511627) := ⟨by rw [HV1.out, HV2.out]; omega⟩
      have hl12' : Hd (vs1.length + vs2.length ≤ 1099511627776) := ⟨Nat.le_trans hl12.out (by omega)⟩
      have R2lt : Hd (∀ j, j < vs2.length → ∀ q, (vs2.getD j undef).ownBlock = some q → w4.heap.size ≤ q) := ⟨fun j hj q hq => (R2.out.lt j hj q hq).1⟩
      clear hb D6
      go_wp2_with (first
        | (at_builtin; refine wpList_appVs rfl (.tmp 83) (.tmp 84) rfl w2.heap.size _ _ vs1 vs2 rfl rfl V1.out (V2.out.vsAt R2.out.one) hl12'.out D7.out.size ?_; intro v8 w8 hown hgr hli; have V8 := Hd.mk hown; have R8 := Hd.mk (RJ.out.other V1.out hgr); have VK8 := Hd.mk (VK.out.other hgr (fun q hq hq2 => by have h1 := (World.ownsRow.lt VK.out q hq).1; have h2 := LV1.out q hq2; omega)); have EK8 : Hd (∀ j, j < As.length → Own w3.heap.size w8 (ks.getD j undef) (As.getD j [])) := ⟨fun j hj => own_other (EK.out j hj) V1.out hgr⟩; have D8 : Hd (Below w2.heap.size w2 w8) := ⟨D7.out.grown hgr D7.out.size (fun q hq => (World.ownsRow.lt V1.out q hq).1)⟩; clear hown hgr hli)
        | fail)
      have hlen12 : Hd ((vs1 ++ vs2).length ≤ 1099511627) := ⟨by rw [List.length_append]; exact hl12.out⟩
      have hb12 : Hd (∀ j, j < (As ++ As).length → ((As ++ As).getD j []).length ≤ 140737488355328) := ⟨fun j _ => Nat.le_trans (getD_le (fun X hX => HAb.out X (by simpa using hX)) j) (by omega)⟩
      have hbA : Hd (∀ j, j < As.length → (As.getD j []).length ≤ 140737488355328) := ⟨fun j _ => Nat.le_trans (getD_le HAb.out j) (by omega)⟩
      obtain ⟨fs, hfs⟩ : ∃ fs, vs1 ++ vs2 = fs := ⟨_, rfl⟩
      have HFs := Hd.mk hfs
      rw [hfs] at V8 R8 hlen12
      obtain ⟨N1, hN1⟩ : ∃ N : Nat → Nat, (fun j => ((As ++ As).getD j []).length) = N := ⟨_, rfl⟩
      obtain ⟨N3, hN3⟩ : ∃ N : Nat → Nat, (fun j => (As.getD j []).length) = N := ⟨_, rfl⟩
      have C8 := Hd.mk (filled_any w2.heap.size w2.heap.size v8 fs (As ++ As) w8 V8.out R8.out hlen12.out hb12.out D8.out.size)
      have C11 := Hd.mk fun W V (vs : List Value) (B : Nat) (h1 : OwnV B W V vs) (h2 : Ra B W vs As) (h3 : vs.length ≤ 1099511627) (h4 : B ≤ W.heap.size) => filled_any B B V vs As W h1 h2 h3 hbA.out h4
      rw [hN1] at C8
      rw [hN3] at C11
      clear hfs hN1 hN3 hl12 hl12' RJ V1 R1 V2 R2 VK EK D7
      refine C8.out.mono ?_
      rintro e w9 ⟨A9, c9, us, rfl, hul, hmore, hlist, hown, hgrp, hblk, ht⟩
      have D9 := Hd.mk (D8.out.trans (ht.toBelow D8.out.size (fun j hj q hq => (R8.out.lt j hj q hq).1)))
      have VK9 := Hd.mk (VK8.out.touch ht R8.out)
      have EK9 : Hd (∀ j, j < As.length → Own w3.heap.size w9 (ks.getD j undef) (As.getD j [])) := ⟨fun j hj => (EK8.out j hj).touch ht fun q hq n hn hn2 => by
        have hq2 := LK.out j hj q hq
        rw [← HFs.out] at hn hn2
        rw [List.length_append] at hn
        by_cases h1 : n < vs1.length
        · rw [getD_left h1] at hn2
          have := L1.out n h1 q hn2
          omega
        · rw [getD_right (by omega)] at hn2
          have := R2lt.out _ (by omega) q hn2
          omega⟩
      have RK9 : Hd (RdL w9 (.slice A4 ks.length c4) As) := ⟨VK9.out.rdl HKl.out (by omega) fun j hj => (EK9.out j hj).rd⟩
      have UL := Hd.mk hul
      have HMore := Hd.mk hmore
      have HList := Hd.mk hlist
      have HOwn := Hd.mk hown
      have HGrp := Hd.mk hgrp
      clear C8 hul hmore hlist hown hgrp hblk ht VK9 EK9 VK8 EK8 LK L1 R2lt R8 V8 HFs D8 LV1 HKl
      have ST1 := Hd.mk fun W (h : Below w9.heap.size w9 W) => stand_e v8 (.slice A9 us.length c9) fs us w2.heap.size w2.heap.size w8.heap.size N1 W (HList.out.below h) (HMore.out.below h) UL.out hlen12.out (fun j hj => (HOwn.out j hj).below h) (fun j c hj hc => (HGrp.out j c hj hc).below h)
      clear HMore HList HOwn HGrp UL
      go_wp2_with fail
      refine (CA.out w9 (KP.out.below D9.out) (KB.out.below D9.out) (KT.out.below D9.out)).mono ?_
      rintro e w10 ⟨A10, c10, vs3, rfl, hv, hr, hb⟩
      have V3 := Hd.mk hv
      have R3 := Hd.mk hr
      have G10 := Hd.mk hb
      have HV3 : Hd (vs3.length ≤ 1099511627) := ⟨by rw [hr.1]; omega⟩
      clear hv hr hb
      go_wp2_with fail
      refine (ST1.out w10 G10.out).mono ?_
      rintro e w' ⟨rfl, rfl⟩
      go_wp2_with fail
      refine (sameAll_any _ _ As As true _ (R3.out.rdl V3.out (by omega)) (RK9.out.below G10.out) (by simp)).mono ?_
      rintro e w11 ⟨rfl, hb⟩
      replace V3 := Hd.mk (V3.out.below hb)
      replace R3 := Hd.mk (R3.out.below hb)
      have G11 := Hd.mk (bel_call0 G10.out hb)
      clear hb G10
      go_wp2_with fail
      refine (C11.out w11 _ vs3 w9.heap.size V3.out R3.out HV3.out G11.out.size).mono ?_
      rintro e w12 ⟨A12, c12, us3, rfl, hul, hmore, hlist, hown, hgrp, hblk, ht⟩
      have G12 := Hd.mk (G11.out.trans (ht.toBelow G11.out.size (fun j hj q hq => (R3.out.lt j hj q hq).1)))
      have D12 := Hd.mk (bel_call0 D9.out G12.out)
      have UL := Hd.mk hul
      have HMore := Hd.mk hmore
      have HList := Hd.mk hlist
      have HOwn := Hd.mk hown
      have HGrp := Hd.mk hgrp
      clear hul hmore hlist hown hgrp hblk ht V3 R3 C11 G11
      have ST2 := Hd.mk fun W (h : Below w12.heap.size w12 W) => stand_e (.slice A10 vs3.length c10) (.slice A12 us3.length c12) vs3 us3 w9.heap.size w9.heap.size w11.heap.size N3 W (HList.out.below h) (HMore.out.below h) UL.out HV3.out (fun j hj => (HOwn.out j hj).below h) (fun j c hj hc => (HGrp.out j c hj hc).below h)
      clear HMore HList HOwn HGrp UL HV3
      go_wp2_with fail
      refine (CA.out w12 (KP.out.below D12.out) (KB.out.below D12.out) (KT.out.below D12.out)).mono ?_
      rintro e w13 ⟨A13, c13, vs4, rfl, hv, hr, hb⟩
      have R13 : Hd (RdL w13 (.slice A13 vs4.length c13) As) := ⟨hr.rdl hv (by omega)⟩
      have H13 := Hd.mk hb
      have G13 := Hd.mk (bel_call0 G12.out hb)
      have D13 := Hd.mk (bel_call0 D12.out hb)
      clear hv hr hb CA D12 G12
      go_wp2_with fail
      refine (ST1.out w13 G13.out).mono ?_
      rintro e w' ⟨rfl, rfl⟩
      go_wp2_with fail
      refine (ST2.out w13 H13.out).mono ?_
      rintro e w' ⟨rfl, rfl⟩
      go_wp2_with fail
      refine (sameAll_any _ _ As As true _ R13.out (RK9.out.below G13.out) (by simp)).mono ?_
      rintro e w14 ⟨rfl, hb⟩
      have D14 := Hd.mk (bel_call0 D13.out hb)
      clear hb R13 RK9 G13 H13 D13 ST1 ST2
      go_wp2_with fail
      refine (same_any _ _ bl bl true _ (KB.out.below D14.out) (KW.out.below D14.out) (by simp)).mono ?_
      rintro e w15 ⟨rfl, hb⟩
      have D15 := Hd.mk (bel_call0 D14.out hb)
      clear hb D14
      go_wp2_with fail
      refine (sameAll_any _ _ Lb Lb true _ (KP.out.below D15.out) (KIn.out.below D15.out) (by simp)).mono ?_
      rintro e w16 ⟨rfl, hb⟩
      have B16 := Hd.mk (bel_call0 B2.out (bel_call0 D15.out hb))
      clear hb
      go_wp2
      go_ret
      exact ⟨rfl, B16.out⟩

theorem wireOwn_walkI (x i : Int) (vp : Value) (Ls : List (List UInt8)) (w : World) (hp : RdL w vp Ls) (hT : TabOk w) (hx : 0 ≤ x ∧ x ≤ 18446744073709551615) (hi : -9223372036854775808 ≤ i ∧ i ≤ 9223372036854775807) :
    Calls Tryd.prog 10 #[.int .u64 x, .int .i64 i, vp] w fun e w' => e = .returned (.bool true) ∧ Below w.heap.size w w' := by
  obtain ⟨u, rfl⟩ : ∃ u : Nat, x = u := ⟨x.toNat, by omega⟩
  exact wireOwn_walk u i vp Ls w hp hT (Is64.mk (by omega)) hi

end Go.Proofs.YtbobigaifkffoaaDoor
