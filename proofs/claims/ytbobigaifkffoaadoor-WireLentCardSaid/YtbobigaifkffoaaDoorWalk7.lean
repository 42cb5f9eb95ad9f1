/-
  THE WALK of the law WireLent.
-/
import Derived.Test.YtbobigaifkffoaaDoorL40
import Derived.Outline
namespace Go.Proofs.YtbobigaifkffoaaDoor
open Go.RowKit
set_option linter.unusedVariables false
set_option linter.unusedSimpArgs false

set_option maxRecDepth 100000 in
set_option maxHeartbeats 6000000 in
/-- 'WireLent': true for every input. -/
theorem wireLent_walk (va vb : Value) (La0 Lb0 : List (List UInt8)) (w : World) (hpa : RdL w va La0) (hpb : RdL w vb Lb0) (hT : TabOk w) :
    Calls Tryd.prog 7 #[va, vb] w fun e w' => e = .returned (.bool true) ∧ Below w.heap.size w w' := by
  obtain ⟨A, cap, rfl, hls⟩ := hpa.form
  obtain ⟨A', cap', rfl, hls'⟩ := hpb.form
  have HP := Hd.mk hpa
  have HQ := Hd.mk hpb
  have HT := Hd.mk hT
  clear hpa hpb hT
  go_enter Tryd.func7, Tryd.ntmps7
  go_wp2_with fail
  refine (light_any _ La0 w HP.out).mono ?_
  rintro e w' ⟨A2, m, c2, rfl, hm, hm5, hfl, hr, rfl⟩
  obtain ⟨La, hLa⟩ : ∃ La, La0.take m = La := ⟨_, rfl⟩
  obtain rfl : La.length = m := by rw [← hLa, List.length_take]; omega
  rw [hLa] at hfl hr
  have HPa := Hd.mk hr
  have hfa := hfl
  have ha5 := hm5
  clear hLa hr HP hm hfl hm5
  go_wp2_with fail
  refine (light_any _ Lb0 w HQ.out).mono ?_
  rintro e w' ⟨A3, m, c3, rfl, hm, hm5, hfl, hr, rfl⟩
  obtain ⟨Lb, hLb⟩ : ∃ Lb, Lb0.take m = Lb := ⟨_, rfl⟩
  obtain rfl : Lb.length = m := by rw [← hLb, List.length_take]; omega
  rw [hLb] at hfl hr
  have HPb := Hd.mk hr
  have hfb := hfl
  have hb5 := hm5
  clear hLb hr HQ hm hfl hm5
  go_wp2_with fail
  go_loopw [6] (fun ix wr => ∃ (k : Nat) (v : Value) (bl : List UInt8), ix = .int .i64 k ∧ k ≤ La.length ∧ Hd (Blo wr w.heap.size 46 #[v, .slice none 0 0]) ∧ Hd (Own w.heap.size wr v bl) ∧ Hd (bl.length ≤ (La.take k).flatten.length + 20 * k) ∧ Hd (Below w.heap.size w wr)) (fun ix _ => La.length - (intOf ix).toNat)
  case atStart => exact ⟨0, .slice none 0 0, [], rfl, by omega, ⟨Blo.new _ _ _⟩, ⟨Own.nil _ _⟩, ⟨by simp⟩, ⟨(Below.refl _ _).alloc (Nat.le_refl _) _⟩⟩
  case round =>
    obtain ⟨k, v, bl, rfl, hk, HBo, HO, HL, HB⟩ := hrel
    by_cases hlt : k < La.length
    · obtain ⟨ad, A1, c1, L1, rfl, hcell, hl1, HL1, HR1⟩ := (HPa.out.below HB.out).at_ k hlt
      obtain ⟨F, hF⟩ : ∃ F, frmOut L1 = F := ⟨_, rfl⟩
      obtain ⟨er, he⟩ : ∃ er, frmErr L1 = er := ⟨_, rfl⟩
      have hFl := frmOut_le L1
      rw [hF] at hFl
      have HLn : Hd ((bl ++ F).length ≤ (La.take (k + 1)).flatten.length + 20 * (k + 1)) := ⟨by
        rw [flat_snoc La k L1 HL1.out, List.length_append, List.length_append]
        have := HL.out
        omega⟩
      have HLq : Hd (bl.length + F.length ≤ 140737555464192) := ⟨by
        have h1 := HLn.out
        have h2 := flat_take La (k + 1)
        rw [List.length_append] at h1
        omega⟩
      have CF := Hd.mk (frame_e _ [L1] L1 F er (wr.alloc (.cells #[.slice A1 L1.length c1] 22)) (RdL.new1 HR1.out) ((HT.out.below HB.out).alloc _) (by simp) he hF)
      obtain ⟨G, hG⟩ : ∃ G, bl ++ F = G := ⟨_, rfl⟩
      rw [hG] at HLn
      have HG := Hd.mk hG
      clear hF he hFl hG
      go_wp2_with fail
      refine CF.out.mono ?_
      rintro e w4 ⟨A4, c4, rfl, ho, hb0⟩
      have hb : Below wr.heap.size wr w4 := bel_call (Below.refl _ _) _ hb0
      have RF := Hd.mk ho.rd
      have O4 := Hd.mk (HO.out.below hb)
      have B4 := Hd.mk (bel_call0 HB.out hb)
      have Bo4 := Hd.mk (HBo.out.below hb)
      have t4 := Bo4.out.at_ 0 _ rfl
      clear hb hb0 ho CF HO HB HBo hcell
      go_wp2_with (at_builtin; refine wpList_app rfl (.tmp 49) (.tmp 50) rfl w.heap.size _ _ bl F rfl rfl O4.out RF.out HLq.out B4.out.size ?_; intro x5 w5 hown hgr; rw [HG.out] at hown; obtain ⟨Ax, cx, rfl⟩ := hown.rd.form; have O5 := Hd.mk hown; have B5 := Hd.mk (bel_app0 B4.out O4.out hgr); have Bo5 := Hd.mk (Bo4.out.grown hgr (Bo4.out.ne O4.out.2 (by decide))); have z5 := Bo5.out.frozen 0; have t5 := Bo5.out.at_ 0 _ rfl; have Bo6 : Hd (Blo (w5.setCell ⟨w.heap.size, 0, none⟩ (.slice Ax G.length cx)) w.heap.size 46 #[.slice Ax G.length cx, .slice none 0 0]) := ⟨Bo5.out.set 0 (.slice Ax G.length cx)⟩; have O6 : Hd (Own w.heap.size (w5.setCell ⟨w.heap.size, 0, none⟩ (.slice Ax G.length cx)) (.slice Ax G.length cx) G) := ⟨O5.out.1, row_far O5.out.2 (Bo5.out.ne O5.out.2 (by decide)) (.slice Ax G.length cx)⟩; have B6 := Hd.mk (B5.out.setCell (p := ⟨w.heap.size, 0, none⟩) (Nat.le_refl _) (.slice Ax G.length cx)); clear hown hgr)
      go_roundw
      case rel => exact ⟨k + 1, _, G, by go_num, by omega, Bo6, O6, HLn, B6⟩
      case measure => simp [intOf]; omega
    · obtain rfl : k = La.length := by omega
      obtain ⟨bla, hbla⟩ : ∃ x, x = bl := ⟨_, rfl⟩
      subst hbla
      obtain ⟨va, hva⟩ : ∃ x, x = v := ⟨_, rfl⟩
      subst hva
      have hla : bla.length ≤ 4294304 := by
        have h1 := HL.out
        have h2 := flat_take La La.length
        omega
      clear HL
      obtain ⟨s2, hs2⟩ : ∃ s, wr.heap.size = s := ⟨_, rfl⟩
      have HS2 := Hd.mk hs2
      have HS20 : Hd (w.heap.size ≤ s2) := ⟨by rw [← hs2]; exact HB.out.size⟩
      have LVa : Hd (∀ q, va.ownBlock = some q → q < s2) := ⟨fun q hq => by rw [← hs2]; exact (HO.out.2.lt q hq).2⟩
      clear hs2
      go_wp2_with fail
      go_loopw [9] (fun ix wr => ∃ (k : Nat) (v : Value) (bl : List UInt8), ix = .int .i64 k ∧ k ≤ Lb.length ∧ Hd (Blo wr w.heap.size 46 #[va, v]) ∧ Hd (Own s2 wr v bl) ∧ Hd (Own w.heap.size wr va bla) ∧ Hd (bl.length ≤ (Lb.take k).flatten.length + 20 * k) ∧ Hd (Below w.heap.size w wr) ∧ Hd (s2 ≤ wr.heap.size)) (fun ix _ => Lb.length - (intOf ix).toNat)
      case atStart => exact ⟨0, .slice none 0 0, [], rfl, by omega, HBo, ⟨Own.nil _ _⟩, HO, ⟨by simp⟩, HB, ⟨by have := HS2.out; omega⟩⟩
      case round =>
        obtain ⟨k, v, bl, rfl, hk, HBo, HO, HVa, HL, HB, HS⟩ := hrel
        by_cases hlt : k < Lb.length
        · obtain ⟨ad, A1, c1, L1, rfl, hcell, hl1, HL1, HR1⟩ := (HPb.out.below HB.out).at_ k hlt
          obtain ⟨F, hF⟩ : ∃ F, frmOut L1 = F := ⟨_, rfl⟩
          obtain ⟨er, he⟩ : ∃ er, frmErr L1 = er := ⟨_, rfl⟩
          have hFl := frmOut_le L1
          rw [hF] at hFl
          have HLn : Hd ((bl ++ F).length ≤ (Lb.take (k + 1)).flatten.length + 20 * (k + 1)) := ⟨by
            rw [flat_snoc Lb k L1 HL1.out, List.length_append, List.length_append]
            have := HL.out
            omega⟩
          have HLq : Hd (bl.length + F.length ≤ 140737555464192) := ⟨by
            have h1 := HLn.out
            have h2 := flat_take Lb (k + 1)
            rw [List.length_append] at h1
            omega⟩
          have CF := Hd.mk (frame_e _ [L1] L1 F er (wr.alloc (.cells #[.slice A1 L1.length c1] 22)) (RdL.new1 HR1.out) ((HT.out.below HB.out).alloc _) (by simp) he hF)
          obtain ⟨G, hG⟩ : ∃ G, bl ++ F = G := ⟨_, rfl⟩
          rw [hG] at HLn
          have HG := Hd.mk hG
          clear hF he hFl hG
          go_wp2_with fail
          refine CF.out.mono ?_
          rintro e w4 ⟨A4, c4, rfl, ho, hb0⟩
          have hb : Below wr.heap.size wr w4 := bel_call (Below.refl _ _) _ hb0
          have RF := Hd.mk ho.rd
          have O4 := Hd.mk (HO.out.below hb)
          have B4 := Hd.mk (bel_call0 HB.out hb)
          have Va4 := Hd.mk (HVa.out.below hb)
          have S4 : Hd (s2 ≤ w4.heap.size) := ⟨Nat.le_trans HS.out hb.size⟩
          have Bo4 := Hd.mk (HBo.out.below hb)
          have t4 := Bo4.out.at_ 1 _ rfl
          clear hb hb0 ho CF HO HB HBo hcell HVa HS
          go_wp2_with (at_builtin; refine wpList_app rfl (.tmp 69) (.tmp 70) rfl s2 _ _ bl F rfl rfl O4.out RF.out HLq.out S4.out ?_; intro x5 w5 hown hgr; rw [HG.out] at hown; obtain ⟨Ax, cx, rfl⟩ := hown.rd.form; have O5 := Hd.mk hown; have B5 := Hd.mk (bel_app0 B4.out (O4.out.mono (Nat.le_trans HS20.out (Nat.le_refl _))) hgr); have Va5 := Hd.mk (own_far Va4.out hgr (fun q hq hq2 => by have h1 := LVa.out q hq; have h2 := (O4.out.2.lt q hq2).1; omega)); have S5 : Hd (s2 ≤ w5.heap.size) := ⟨Nat.le_trans S4.out hgr.size⟩; have Bo5 := Hd.mk (Bo4.out.grown hgr (Bo4.out.ne O4.out.2 (by decide))); have z5 := Bo5.out.frozen 1; have t5 := Bo5.out.at_ 1 _ rfl; have Bo6 : Hd (Blo (w5.setCell ⟨w.heap.size, 1, none⟩ (.slice Ax G.length cx)) w.heap.size 46 #[va, .slice Ax G.length cx]) := ⟨Bo5.out.set 1 (.slice Ax G.length cx)⟩; have O6 : Hd (Own s2 (w5.setCell ⟨w.heap.size, 1, none⟩ (.slice Ax G.length cx)) (.slice Ax G.length cx) G) := ⟨O5.out.1, row_far O5.out.2 (Bo5.out.ne O5.out.2 (by decide)) (.slice Ax G.length cx)⟩; have B6 := Hd.mk (B5.out.setCell (p := ⟨w.heap.size, 1, none⟩) (Nat.le_refl _) (.slice Ax G.length cx)); have Va6 : Hd (Own w.heap.size (w5.setCell ⟨w.heap.size, 1, none⟩ (.slice Ax G.length cx)) va bla) := ⟨Va5.out.1, row_far Va5.out.2 (Bo5.out.ne Va5.out.2 (by decide)) _⟩; have S6 : Hd (s2 ≤ (w5.setCell ⟨w.heap.size, 1, none⟩ (.slice Ax G.length cx)).heap.size) := ⟨by simpa using S5.out⟩; clear hown hgr)
          go_roundw
          case rel => exact ⟨k + 1, _, G, by go_num, by omega, Bo6, O6, Va6, HLn, B6, S6⟩
          case measure => simp [intOf]; omega
        · obtain rfl : k = Lb.length := by omega
          obtain ⟨blb, hblb⟩ : ∃ x, x = bl := ⟨_, rfl⟩
          subst hblb
          obtain ⟨vb, hvb⟩ : ∃ x, x = v := ⟨_, rfl⟩
          subst hvb
          have hlb : blb.length ≤ 4294304 := by
            have h1 := HL.out
            have h2 := flat_take Lb Lb.length
            omega
          clear HL
          obtain ⟨Bsa, qa, hRa⟩ := Runs.exists_ bla bla.length 0 (by omega)
          obtain ⟨Bsb, qb, hRb⟩ := Runs.exists_ blb blb.length 0 (by omega)
          have hna : Bsa.length ≤ 4294304 := by have := hRa.bound; omega
          have hnb : Bsb.length ≤ 4294304 := by have := hRb.bound; omega
          have RA := Hd.mk hRa
          have RB := Hd.mk hRb
          clear hRa hRb HS2 HS20 HS LVa HPa HPb hfa hfb ha5 hb5
          have hb1 := HB.out.alloc HB.out.size (.cells #[.slice none 0 0, .slice none 0 0] 47)
          have hbo1 := HBo.out.below ((Below.refl _ _).alloc (Nat.le_refl _) (.cells #[.slice none 0 0, .slice none 0 0] 47))
          have hw1 := Blo.new wr #[.slice none 0 0, .slice none 0 0] 47
          have hva1 := HVa.out.alloc (.cells #[.slice none 0 0, .slice none 0 0] 47)
          have hvb1 := HO.out.alloc (.cells #[.slice none 0 0, .slice none 0 0] 47)
          obtain ⟨gw, hgw⟩ : ∃ gw, wr.heap.size = gw := ⟨_, rfl⟩
          rw [hgw] at hw1
          have hgwb : w.heap.size < gw := by rw [← hgw]; exact HBo.out.lt
          clear HVa HO
          have t0 := hbo1.at_ 0 _ rfl
          go_wp2_with fail
          generalize (wr.alloc (.cells #[.slice none 0 0, .slice none 0 0] 47)) = w1 at *
          have B1 := Hd.mk hb1
          have Bt1 := Hd.mk hbo1
          have Bw1 := Hd.mk hw1
          have Va1 := Hd.mk hva1
          have Vb1 := Hd.mk hvb1
          have HGw := Hd.mk hgwb
          clear hb1 hbo1 hw1 hva1 hvb1 hgw hgwb HB HBo t0
          refine (dReadFrames_any va bla 0 qa Bsa w1 Va1.out.rd (by omega) (by omega) RA.out).mono ?_
          rintro e w2 ⟨Aa, ca, wa, rfl, hl, hv, he, -, hb⟩
          have Wa2 : Hd (Lst w1.heap.size w2 (.slice Aa wa.length ca) Bsa) := ⟨⟨wa, hv, hl, he⟩⟩
          have B2 := Hd.mk (bel_call0 B1.out hb)
          have Bt2 := Hd.mk (Bt1.out.below hb)
          have Bw2 := Hd.mk (Bw1.out.below hb)
          have Va2 := Hd.mk (Va1.out.below hb)
          have Vb2 := Hd.mk (Vb1.out.below hb)
          have z2 := Bw2.out.frozen 0
          have y2 := Bw2.out.at_ 0 _ rfl
          have t2 : (w2.setCell ⟨gw, 0, none⟩ (.slice Aa wa.length ca)).cell? ⟨w.heap.size, 1, none⟩ = some vb := (Bt2.out.far (j := 0) (Nat.ne_of_lt HGw.out) _).at_ 1 _ rfl
          clear hl hv he hb Va1 Vb1 B1 Bt1 Bw1
          go_wp2_with fail
          have hb3 := B2.out.setCell (p := ⟨gw, 0, none⟩) (Nat.le_of_lt HGw.out) (.slice Aa wa.length ca)
          have hbt3 := Bt2.out.far (j := 0) (Nat.ne_of_lt HGw.out) (.slice Aa wa.length ca)
          have hbw3 := Bw2.out.set 0 (.slice Aa wa.length ca)
          have hva3 := Va2.out.farB (j := 0) Bw2.out (by decide) (.slice Aa wa.length ca)
          have hvb3 := Vb2.out.farB (j := 0) Bw2.out (by decide) (.slice Aa wa.length ca)
          have hwa3 := Wa2.out.far (j := 0) Bw2.out (by decide) (by decide) (.slice Aa wa.length ca)
          generalize (w2.setCell ⟨gw, 0, none⟩ (.slice Aa wa.length ca)) = w3 at *
          have B3 := Hd.mk hb3
          have Bt3 := Hd.mk hbt3
          have Bw3 : Hd (Blo w3 gw 47 #[.slice Aa wa.length ca, .slice none 0 0]) := ⟨hbw3⟩
          have Va3 := Hd.mk hva3
          have Vb3 := Hd.mk hvb3
          have Wa3 := Hd.mk hwa3
          clear hb3 hbt3 hbw3 hva3 hvb3 hwa3 t2 z2 y2 B2 Bt2 Bw2 Va2 Vb2 Wa2
          refine (dReadFrames_any vb blb 0 qb Bsb w3 Vb3.out.rd (by omega) (by omega) RB.out).mono ?_
          rintro e w4 ⟨Ab, cb, wb, rfl, hl, hv, he, -, hb⟩
          have Wb4 : Hd (Lst w3.heap.size w4 (.slice Ab wb.length cb) Bsb) := ⟨⟨wb, hv, hl, he⟩⟩
          have B4 := Hd.mk (bel_call0 B3.out hb)
          have Bt4 := Hd.mk (Bt3.out.below hb)
          have Bw4 := Hd.mk (Bw3.out.below hb)
          have Va4 := Hd.mk (Va3.out.below hb)
          have Vb4 := Hd.mk (Vb3.out.below hb)
          have Wa4 := Hd.mk (Wa3.out.below hb)
          have z4 := Bw4.out.frozen 1
          have y4 := Bw4.out.at_ 1 _ rfl
          clear hl hv he hb Va3 Vb3 B3 Bt3 Bw3 Wa3
          go_wp2_with fail
          have hb5 := B4.out.setCell (p := ⟨gw, 1, none⟩) (Nat.le_of_lt HGw.out) (.slice Ab wb.length cb)
          have hsz5 : (w4.setCell ⟨gw, 1, none⟩ (.slice Ab wb.length cb)).heap.size = w4.heap.size := by simp
          have hbt5 := Bt4.out.far (j := 1) (Nat.ne_of_lt HGw.out) (.slice Ab wb.length cb)
          have hbw5 := Bw4.out.set 1 (.slice Ab wb.length cb)
          have hva5 := Va4.out.farB (j := 1) Bw4.out (by decide) (.slice Ab wb.length cb)
          have hvb5 := Vb4.out.farB (j := 1) Bw4.out (by decide) (.slice Ab wb.length cb)
          have hwa5 := Wa4.out.far (j := 1) Bw4.out (by decide) (by decide) (.slice Ab wb.length cb)
          have hwb5 := Wb4.out.far (j := 1) Bw4.out (by decide) (by decide) (.slice Ab wb.length cb)
          generalize (w4.setCell ⟨gw, 1, none⟩ (.slice Ab wb.length cb)) = w5 at *
          rw [← hsz5]
          have hnew := (Below.refl w5.heap.size w5).alloc (Nat.le_refl _) (.cells #[.int .i64 0, .int .i64 0, .int .i64 1, .int .i64 1, .int .i64 0, .int .i64 1] 48)
          have hy6 := Blo.new w5 #[.int .i64 0, .int .i64 0, .int .i64 1, .int .i64 1, .int .i64 0, .int .i64 1] 48
          obtain ⟨gy, hgy⟩ : ∃ gy, w5.heap.size = gy := ⟨_, rfl⟩
          have hgyl : w.heap.size ≤ gy := by rw [← hgy]; exact hb5.size
          rw [hgy] at hnew hy6 ⊢
          generalize (w5.alloc (.cells #[.int .i64 0, .int .i64 0, .int .i64 1, .int .i64 1, .int .i64 0, .int .i64 1] 48)) = wc at *
          rw [← hgy] at hnew
          have BC := Hd.mk (bel_call0 hb5 hnew)
          have BT := Hd.mk (hbt5.below hnew)
          have BW : Hd (Blo wc gw 47 #[.slice Aa wa.length ca, .slice Ab wb.length cb]) := ⟨Blo.below hbw5 hnew⟩
          have BY := Hd.mk hy6
          have RTa := Hd.mk (hva5.rd.below hnew)
          have RTb := Hd.mk (hvb5.rd.below hnew)
          have RWa := Hd.mk ((hwa5.rdl (by omega)).below hnew)
          have RWb := Hd.mk ((hwb5.rdl (by omega)).below hnew)
          have TC := Hd.mk (HT.out.below BC.out)
          have HGy := Hd.mk hgyl
          clear hb5 hsz5 hbt5 hbw5 hva5 hvb5 hwa5 hwb5 hnew hy6 hgy hgyl z4 y4 B4 Bt4 Bw4 Va4 Vb4 Wa4 Wb4 HGw
          obtain ⟨BsK, hK⟩ : ∃ f : Nat → List (List UInt8), f = fun k => if k = 2 ∨ k = 3 ∨ k = 5 then Bsb else Bsa := ⟨_, rfl⟩
          have HSix : Hd (∀ k, k < 6 → ∃ (y : Nat) (tv wv : Value) (bl : List UInt8) (q : Nat), y < 2 ∧ bl.length ≤ 4294304 ∧ (BsK k).length ≤ 4294304 ∧
              (∀ W, Below wc.heap.size wc W → W.cell? ⟨gy, k, none⟩ = some (.int .i64 y) ∧ W.cell? ⟨w.heap.size, y, none⟩ = some tv ∧ W.cell? ⟨gw, y, none⟩ = some wv ∧ Rd W tv bl ∧ RdL W wv (BsK k)) ∧ Runs bl 0 (BsK k) q) := ⟨by
            intro k hk
            subst hK
            rcases (show k = 0 ∨ k = 1 ∨ k = 2 ∨ k = 3 ∨ k = 4 ∨ k = 5 by omega) with rfl | rfl | rfl | rfl | rfl | rfl
            · exact ⟨0, va, .slice Aa wa.length ca, bla, qa, by omega, hla, hna, fun W hb => ⟨(BY.out.below hb).at_ 0 _ rfl, (BT.out.below hb).at_ 0 _ rfl, (BW.out.below hb).at_ 0 _ rfl, RTa.out.below hb, RWa.out.below hb⟩, RA.out⟩
            · exact ⟨0, va, .slice Aa wa.length ca, bla, qa, by omega, hla, hna, fun W hb => ⟨(BY.out.below hb).at_ 1 _ rfl, (BT.out.below hb).at_ 0 _ rfl, (BW.out.below hb).at_ 0 _ rfl, RTa.out.below hb, RWa.out.below hb⟩, RA.out⟩
            · exact ⟨1, vb, .slice Ab wb.length cb, blb, qb, by omega, hlb, hnb, fun W hb => ⟨(BY.out.below hb).at_ 2 _ rfl, (BT.out.below hb).at_ 1 _ rfl, (BW.out.below hb).at_ 1 _ rfl, RTb.out.below hb, RWb.out.below hb⟩, RB.out⟩
            · exact ⟨1, vb, .slice Ab wb.length cb, blb, qb, by omega, hlb, hnb, fun W hb => ⟨(BY.out.below hb).at_ 3 _ rfl, (BT.out.below hb).at_ 1 _ rfl, (BW.out.below hb).at_ 1 _ rfl, RTb.out.below hb, RWb.out.below hb⟩, RB.out⟩
            · exact ⟨0, va, .slice Aa wa.length ca, bla, qa, by omega, hla, hna, fun W hb => ⟨(BY.out.below hb).at_ 4 _ rfl, (BT.out.below hb).at_ 0 _ rfl, (BW.out.below hb).at_ 0 _ rfl, RTa.out.below hb, RWa.out.below hb⟩, RA.out⟩
            · exact ⟨1, vb, .slice Ab wb.length cb, blb, qb, by omega, hlb, hnb, fun W hb => ⟨(BY.out.below hb).at_ 5 _ rfl, (BT.out.below hb).at_ 1 _ rfl, (BW.out.below hb).at_ 1 _ rfl, RTb.out.below hb, RWb.out.below hb⟩, RB.out⟩⟩
          have HTwo : Hd (∀ k, k < 2 → ∃ (tv wv : Value) (bl : List UInt8) (Bs : List (List UInt8)) (q : Nat), bl.length ≤ 4294304 ∧ Bs.length ≤ 4294304 ∧
              (∀ W, Below wc.heap.size wc W → W.cell? ⟨w.heap.size, k, none⟩ = some tv ∧ W.cell? ⟨gw, k, none⟩ = some wv ∧ Rd W tv bl ∧ RdL W wv Bs) ∧ Runs bl 0 Bs q) := ⟨by
            intro k hk
            rcases (show k = 0 ∨ k = 1 by omega) with rfl | rfl
            · exact ⟨va, .slice Aa wa.length ca, bla, Bsa, qa, hla, hna, fun W hb => ⟨(BT.out.below hb).at_ 0 _ rfl, (BW.out.below hb).at_ 0 _ rfl, RTa.out.below hb, RWa.out.below hb⟩, RA.out⟩
            · exact ⟨vb, .slice Ab wb.length cb, blb, Bsb, qb, hlb, hnb, fun W hb => ⟨(BT.out.below hb).at_ 1 _ rfl, (BW.out.below hb).at_ 1 _ rfl, RTb.out.below hb, RWb.out.below hb⟩, RB.out⟩⟩
          have HKl : Hd (∀ k, k < 6 → (BsK k).length ≤ 4294304) := ⟨fun k hk => by
            obtain ⟨y, tv, wv, bl, q, _, _, h, _⟩ := HSix.out k hk
            exact h⟩
          clear hK BT BW BY RTa RTb RWa RWb RA RB hla hlb hna hnb HGy
          go_loopw [14, 15] (fun l ix wr => ∃ (k : Nat) (vals : List Value), ix = .int .i64 k ∧ k ≤ 6 ∧ Hd (vals.length = k) ∧ Hd (OwnW wc.heap.size wr l vals) ∧ Hd (∀ j, j < k → Lst wc.heap.size wr (vals.getD j undef) (BsK j)) ∧
              Hd (∀ i j, i < j → j < k → ∀ q, (vals.getD i undef).ownBlock = some q → (vals.getD j undef).ownBlock ≠ some q) ∧ Hd (Below wc.heap.size wc wr)) (fun _ ix _ => 6 - (intOf ix).toNat)
          case atStart => exact ⟨0, [], rfl, by omega, ⟨rfl⟩, ⟨OwnW.nil _ _⟩, ⟨fun j hj => absurd hj (Nat.not_lt_zero _)⟩, ⟨fun i j _ hj => absurd hj (Nat.not_lt_zero _)⟩, ⟨Below.refl _ _⟩⟩
          case round =>
            obtain ⟨k, vals, rfl, hk, HVl, HW, HLs, HAp, HB⟩ := hrel
            by_cases hlt : k < 6
            · obtain ⟨y, tv, wv, bl, q, hy, hbl, hnl, hall, hRun⟩ := HSix.out k hlt
              obtain ⟨cy, ct, cw, rt, rl⟩ := hall wr HB.out
              have CR := Hd.mk (readFrames_any tv bl 0 q (BsK k) wr rt (TC.out.below HB.out) (by omega) (by omega) hRun)
              clear cw rt rl hall hRun
              go_wp2_with fail
              refine CR.out.mono ?_
              rintro e w6 ⟨A6, c6, us, rfl, hul, hv, he, -, hb⟩
              have L6 : Hd (Lst wr.heap.size w6 (.slice A6 us.length c6) (BsK k)) := ⟨⟨us, hv, hul, he⟩⟩
              have W6 := Hd.mk (HW.out.below hb)
              have Ls6 : Hd (∀ j, j < k → Lst wc.heap.size w6 (vals.getD j undef) (BsK j)) := ⟨fun j hj => (HLs.out j hj).below hb⟩
              have Lt6 : Hd (∀ j, j < k → ∀ q, (vals.getD j undef).ownBlock = some q → q < wr.heap.size) := ⟨fun j hj q hq => ((HLs.out j hj).lt q hq).2⟩
              have S6 : Hd (wc.heap.size ≤ wr.heap.size) := ⟨HB.out.size⟩
              have B6 := Hd.mk (bel_call0 HB.out hb)
              have HV6 : Hd (vals.length ≤ 1000) := ⟨by have := HVl.out; omega⟩
              clear hul hv he hb CR HW HLs HB cy ct
              go_wp2_with (at_builtin; refine wpList_appW rfl (.tmp 101) (.tmp 103) rfl wc.heap.size _ (.slice A6 us.length c6) _ _ vals rfl rfl (World.ownsRow.alloc W6.out _) ((Blo.new _ _ _).at_ 0 _ rfl) rfl HV6.out (hb_alloc0 B6.out.size _) ?_; intro x7 w7 hown hgr; have W7 := Hd.mk hown; have Ls7 := Hd.mk (lists_snoc HVl.out Ls6.out L6.out S6.out W6.out hgr); have Ap7 := Hd.mk (apart_snoc HVl.out HAp.out Lt6.out L6.out); have B7 := Hd.mk (bel_appW B6.out B6.out.size W6.out hgr); clear hown hgr)
              go_roundw
              case rel => exact ⟨k + 1, vals ++ [.slice A6 us.length c6], by go_num, by omega, ⟨by simp [HVl.out]⟩, W7, Ls7, Ap7, B7⟩
              case measure => simp [intOf]; omega
            · have hk6 : k = 6 := by omega
              have HV6 : Hd (vals.length = 6) := ⟨by rw [HVl.out]; exact hk6⟩
              obtain ⟨Al, cl, rfl, _⟩ := HW.out.form
              obtain ⟨gl, rfl, hgl1, hgl2, _⟩ := HW.out.cells (by rw [HV6.out]; omega)
              have HLs6 : Hd (∀ j, j < 6 → Lst wc.heap.size wr (vals.getD j undef) (BsK j)) := ⟨fun j hj => HLs.out j (by omega)⟩
              have HAp6 : Hd (∀ i j, i < j → j < 6 → ∀ q, (vals.getD i undef).ownBlock = some q → (vals.getD j undef).ownBlock ≠ some q) := ⟨fun i j hij hj => HAp.out i j hij (by omega)⟩
              obtain ⟨w8, hw8⟩ : ∃ w8, w8 = wr := ⟨_, rfl⟩
              subst hw8
              clear HLs HAp HVl hgl1 hgl2 hk6
              go_wp2_with fail
              go_loopw [18] (fun ix wr => ∃ k : Nat, ix = .int .i64 k ∧ k ≤ 6 ∧ Hd (Below w8.heap.size w8 wr)) (fun ix _ => 6 - (intOf ix).toNat)
              case atStart => exact ⟨0, rfl, by omega, ⟨Below.refl _ _⟩⟩
              case round =>
                obtain ⟨k, rfl, hk, HE⟩ := hrel
                by_cases hlt : k < 6
                · obtain ⟨y, tv, wv, bl, q, hy, hbl, hnl, hall, hRun⟩ := HSix.out k hlt
                  have ik : (k : Int) < (vals.length : Int) := by have := HV6.out; omega
                  have iy : (y : Int) < 2 := by omega
                  have i6 : (k : Int) < 6 := by omega
                  have hbd : Below wc.heap.size wc wr.drew := (bel_call0 HB.out HE.out).drew
                  obtain ⟨cy, ct, cw, rt, rl⟩ := hall wr.drew hbd
                  have hbd2 : Below w8.heap.size w8 wr.drew := HE.out.drew
                  have cl8 := (HW.out.below hbd2)
                  obtain ⟨vk, hvk⟩ : ∃ vk, vals.getD k undef = vk := ⟨_, rfl⟩
                  have hlk := ((HLs6.out k hlt).below hbd2)
                  obtain ⟨g', e', _, _, hcell⟩ := cl8.cells (by rw [HV6.out]; omega)
                  injection e' with e'
                  injection e' with e'
                  subst e'
                  have hck := hcell k (by rw [HV6.out]; exact hlt)
                  rw [hvk] at hck hlk
                  have F0 : Hd (wr.drew.cell? ⟨gl, k, none⟩ = some vk ∧ wr.drew.cell? ⟨gy, k, none⟩ = some (.int .i64 y) ∧ wr.drew.cell? ⟨gw, y, none⟩ = some wv) := ⟨⟨hck, cy, cw⟩⟩
                  have CS := Hd.mk (sameAll_any vk wv (BsK k) (BsK k) true wr.drew (hlk.rdl (by omega)) rl (by simp))
                  clear hall hRun cy ct cw rt rl cl8 hvk hlk hcell hck hbd hbd2
                  go_wp2_with fail
                  go_region_held3 (fun w' => w'.cell? ⟨gl, k, none⟩ = some vk ∧ w'.cell? ⟨gy, k, none⟩ = some (.int .i64 y) ∧ w'.cell? ⟨gw, y, none⟩ = some wv)
                    (first | exact F0.out | exact F1.out)
                    (first | (go_at_call 30; refine CS.out.mono ?_; rintro e w9 ⟨rfl, hb⟩; have F1 : Hd (w9.cell? ⟨gl, k, none⟩ = some vk ∧ w9.cell? ⟨gy, k, none⟩ = some (.int .i64 y) ∧ w9.cell? ⟨gw, y, none⟩ = some wv) := ⟨⟨cell_below hb F0.out.1, cell_below hb F0.out.2.1, cell_below hb F0.out.2.2⟩⟩; have HE9 : Hd (Below w8.heap.size w8 w9) := ⟨bel_call0 HE.out.drew hb⟩; clear hb))
                  go_wp2_with fail
                  go_roundw
                  case rel => exact ⟨k + 1, by go_num, by omega, HE9⟩
                  case measure => simp [intOf]; omega
                · obtain ⟨w9, hw9⟩ : ∃ w9, w9 = wr := ⟨_, rfl⟩
                  subst hw9
                  have HW9 := Hd.mk (HW.out.below HE.out)
                  have HLs9 : Hd (∀ j, j < 6 → Lst wc.heap.size w9 (vals.getD j undef) (BsK j)) := ⟨fun j hj => (HLs6.out j hj).below HE.out⟩
                  have B9 := Hd.mk (bel_call0 HB.out HE.out)
                  clear HW HLs6 HB HE hk
                  go_wp2_with fail
                  go_loopw [19] (fun ix wr => ∃ k : Nat, ix = .int .i64 k ∧ k ≤ 6 ∧ Hd (OwnW wc.heap.size wr (.slice (some ⟨gl, 0, none⟩) vals.length cl) vals) ∧ Hd (∀ j, j < 6 → Lst wc.heap.size wr (vals.getD j undef) (if j < k then mkL (BsK j).length j else BsK j)) ∧ Hd (Below wc.heap.size wc wr)) (fun ix _ => 6 - (intOf ix).toNat)
                  case atStart => exact ⟨0, rfl, by omega, HW9, ⟨fun j hj => by simpa using HLs9.out j hj⟩, B9⟩
                  case round =>
                    clear HW9 HLs9 B9
                    obtain ⟨k, rfl, hk, HW, HLs, HB⟩ := hrel
                    by_cases hlt : k < 6
                    · obtain ⟨L1, hL1⟩ : ∃ L1, BsK k = L1 := ⟨_, rfl⟩
                      have hL1l : L1.length ≤ 4294304 := by rw [← hL1]; exact HKl.out k hlt
                      have hk0 := HLs.out k hlt
                      rw [if_neg (Nat.lt_irrefl _), hL1] at hk0
                      obtain ⟨A1, c1, hf⟩ := hk0.form
                      rw [hf] at hk0
                      have HK0 := Hd.mk hk0
                      have HF := Hd.mk hf
                      have HL1 := Hd.mk hL1
                      obtain ⟨g, hg⟩ : ∃ g, 11 + k = g := ⟨_, rfl⟩
                      have g1 : g < 256 := by omega
                      have e1 : (11 : Int) + (k : Int) = (g : Int) := by omega
                      have HM : Hd ((g : Int) = ((UInt8.ofNat (11 + k)).toNat : Int)) := ⟨by rw [hg]; simp; omega⟩
                      have ik : (k : Int) < (vals.length : Int) := by have := HV6.out; omega
                      have dk : decide ((k : Int) < 6) = true := dec_t (by omega)
                      clear hL1 hk0 hf hg
                      go_wp2_with fail
                      go_loopw [20] (fun ix wq => ∃ m : Nat, ix = .int .i64 m ∧ m ≤ L1.length ∧ Hd (OwnW wc.heap.size wq (.slice (some ⟨gl, 0, none⟩) vals.length cl) vals) ∧ Hd (∀ j, j < 6 → j ≠ k → Lst wc.heap.size wq (vals.getD j undef) (if j < k then mkL (BsK j).length j else BsK j)) ∧
                          Hd (Lst wc.heap.size wq (.slice A1 L1.length c1) (mkL m k ++ L1.drop m)) ∧ Hd (Below wc.heap.size wc wq)) (fun ix _ => L1.length - (intOf ix).toNat)
                      case atStart => exact ⟨0, rfl, by omega, HW, ⟨fun j hj _ => HLs.out j hj⟩, ⟨by simpa [mkL] using HK0.out⟩, HB⟩
                      case round =>
                        clear HW HLs HB HK0
                        obtain ⟨m, rfl, hm, HW, HLs, HK, HB⟩ := hrel
                        obtain ⟨g', e', _, _, hcells⟩ := HW.out.cells (by rw [HV6.out]; omega)
                        injection e' with e'
                        injection e' with e'
                        subst e'
                        have hcell := hcells k (by rw [HV6.out]; exact hlt)
                        rw [HF.out] at hcell
                        clear hcells
                        by_cases hml : m < L1.length
                        · have hlen : m < (mkL m k ++ L1.drop m).length := by rw [List.length_append, mkL_len, List.length_drop]; omega
                          obtain ⟨gk, A5, c5, e5, hc5, hz5, -⟩ := HK.out.at_ m _ (List.getElem?_eq_getElem hlen)
                          subst e5
                          have hz := (World.frozen?_of_block (a := ⟨gk, m, none⟩) ((((Below.refl wr.heap.size wr).alloc (Nat.le_refl _) (.cells #[.int .u8 (g : Int)] 5))).block gk ((HK.out.lt gk rfl).2))).trans hz5
                          obtain ⟨sv, hsv⟩ : ∃ sv, (wr.alloc (.cells #[.int .u8 (g : Int)] 5)).cell? ⟨gk, m, none⟩ = some sv := ⟨_, cell_below ((Below.refl _ _).alloc (Nat.le_refl _) _) hc5⟩
                          have hsl : Own wc.heap.size (wr.alloc (.cells #[.int .u8 (g : Int)] 5)) (.slice (some ⟨wr.heap.size, 0, none⟩) 1 1) [UInt8.ofNat (11 + k)] := Own.new1 _ _ HM.out HB.out.size
                          have hst := (HK.out.alloc (.cells #[.int .u8 (g : Int)] 5)).store hsl hlen
                          rw [mkL_set hml] at hst
                          have K1 := Hd.mk hst
                          have W1 : Hd (OwnW wc.heap.size ((wr.alloc (.cells #[.int .u8 (g : Int)] 5)).setCell ⟨gk, m, none⟩ (.slice (some ⟨wr.heap.size, 0, none⟩) 1 1)) (.slice (some ⟨gl, 0, none⟩) vals.length cl) vals) := ⟨OwnW.storeO (World.ownsRow.alloc HW.out _) (HK.out.alloc (.cells #[.int .u8 (g : Int)] 5)) _⟩
                          have P1 : Hd (∀ j, j < 6 → j ≠ k → Lst wc.heap.size ((wr.alloc (.cells #[.int .u8 (g : Int)] 5)).setCell ⟨gk, m, none⟩ (.slice (some ⟨wr.heap.size, 0, none⟩) 1 1)) (vals.getD j undef) (if j < k then mkL (BsK j).length j else BsK j)) := ⟨fun j hj hjk => ((HLs.out j hj hjk).alloc _).storeO (HK.out.alloc (.cells #[.int .u8 (g : Int)] 5)) (by
                            intro hq
                            rcases Nat.lt_or_gt_of_ne hjk with h1 | h1
                            · exact HAp6.out j k h1 hlt gk hq (by rw [HF.out]; rfl)
                            · exact HAp6.out k j h1 hj gk (by rw [HF.out]; rfl) hq) _⟩
                          have Q1 : Hd (Below wc.heap.size wc ((wr.alloc (.cells #[.int .u8 (g : Int)] 5)).setCell ⟨gk, m, none⟩ (.slice (some ⟨wr.heap.size, 0, none⟩) 1 1))) := ⟨(HB.out.alloc HB.out.size _).setCell (p := ⟨gk, m, none⟩) ((HK.out.lt gk rfl).1) _⟩
                          clear hsl hst hlen hc5 hz5 HW HLs HK HB
                          go_wp2_with fail
                          go_roundw
                          case rel => exact ⟨m + 1, by go_num, by omega, W1, P1, K1, Q1⟩
                          case measure => simp [intOf]; omega
                        · obtain rfl : m = L1.length := by omega
                          have P1 : Hd (∀ j, j < 6 → Lst wc.heap.size wr (vals.getD j undef) (if j < k + 1 then mkL (BsK j).length j else BsK j)) := ⟨fun j hj => by
                            by_cases hjk : j = k
                            · subst hjk
                              rw [if_pos (by omega), HF.out, HL1.out]
                              have := HK.out
                              rwa [List.drop_length, List.append_nil] at this
                            · have := HLs.out j hj hjk
                              by_cases h1 : j < k
                              · rw [if_pos h1] at this
                                rw [if_pos (by omega)]
                                exact this
                              · rw [if_neg h1] at this
                                rw [if_neg (by omega)]
                                exact this⟩
                          clear HLs HK
                          go_wp2_with fail
                          go_roundw
                          case rel => exact ⟨k + 1, by go_num, by omega, HW, P1, HB⟩
                          case measure => simp [intOf]; omega
                    · obtain ⟨w10, hw10⟩ : ∃ w10, w10 = wr := ⟨_, rfl⟩
                      subst hw10
                      have HLs10 : Hd (∀ j, j < 6 → Lst wc.heap.size w10 (vals.getD j undef) (mkL (BsK j).length j)) := ⟨fun j hj => by have := HLs.out j hj; rwa [if_pos (by omega)] at this⟩
                      obtain ⟨N, hN⟩ : ∃ N : Nat → Nat, ∀ j, (BsK j).length = N j := ⟨_, fun _ => rfl⟩
                      have HNl : Hd (∀ j, j < 6 → N j ≤ 4294304) := ⟨fun j hj => by rw [← hN]; exact HKl.out j hj⟩
                      have HLs11 : Hd (∀ j, j < 6 → Lst wc.heap.size w10 (vals.getD j undef) (mkL (N j) j)) := ⟨fun j hj => by rw [← hN]; exact HLs10.out j hj⟩
                      have HOld : Hd (∀ j, j < 6 → ∀ q, (vals.getD j undef).ownBlock = some q → q < w10.heap.size) := ⟨fun j hj q hq => ((HLs11.out j hj).lt q hq).2⟩
                      have HLv : Hd (∀ q, (Value.slice (some ⟨gl, 0, none⟩) vals.length cl).ownBlock = some q → q < w10.heap.size) := ⟨fun q hq => (World.ownsRow.lt HW.out q hq).2⟩
                      have HBase : Hd (wc.heap.size ≤ w10.heap.size) := ⟨HB.out.size⟩
                      clear HLs HLs10 hN hk
                      go_wp2_with fail
                      go_loopw [21, 22] (fun l ix wr => ∃ (k : Nat) (us : List Value), ix = .int .i64 k ∧ k ≤ 6 ∧ Hd (Mor w10.heap.size wr wr wc.heap.size k (.slice (some ⟨gl, 0, none⟩) vals.length cl) l vals us N) ∧ Hd (us.length = k) ∧
                          Hd (∀ j, j < k → ∀ q, (us.getD j undef).ownBlock = some q → (vals.getD j undef).ownBlock = some q ∨ w10.heap.size ≤ q) ∧ Hd (w10.heap.size ≤ wr.heap.size) ∧ Hd (Below wc.heap.size wc wr)) (fun _ ix _ => 6 - (intOf ix).toNat)
                      case atStart => exact ⟨0, [], rfl, by omega, ⟨⟨HW.out, OwnW.nil _ _, HLs11.out, fun j hj => absurd hj (Nat.not_lt_zero _), Nat.le_refl _⟩⟩, ⟨rfl⟩, ⟨fun j hj => absurd hj (Nat.not_lt_zero _)⟩, ⟨Nat.le_refl _⟩, HB⟩
                      case round =>
                        clear HW HLs11 HB
                        obtain ⟨k, us, rfl, hk, HF0, HUl, HNew, HSz, HB⟩ := hrel
                        by_cases hlt : k < 6
                        · have HBlk : Hd (BlkM w10.heap.size wr k (.slice (some ⟨gl, 0, none⟩) vals.length cl) vals us) := ⟨⟨hlt, HAp6.out, HOld.out, fun j hj q hq => (HNew.out j hj q hq).imp id fun h1 => ⟨h1, ((HF0.out.grp j hj).lt q hq).2⟩, HSz.out, HUl.out, HLv.out⟩⟩
                          obtain ⟨A1, c1, hf⟩ := (HF0.out.own k hlt).form
                          rw [mkL_len] at hf
                          have HM0 : Hd (MemM wr wr wc.heap.size k vals (.slice A1 (N k) c1) (N k)) := ⟨⟨by rw [← hf]; exact HF0.out.own k hlt, fun q hq => .inl (by rw [hf]; exact hq)⟩⟩
                          have HF := Hd.mk hf
                          obtain ⟨g, hg⟩ : ∃ g, 11 + k = g := ⟨_, rfl⟩
                          have g1 : g < 256 := by omega
                          have e1 : (11 : Int) + (k : Int) = (g : Int) := by omega
                          have HM : Hd ((g : Int) = ((UInt8.ofNat (11 + k)).toNat : Int)) := ⟨by rw [hg]; simp; omega⟩
                          have ik : (k : Int) < (vals.length : Int) := by have := HV6.out; omega
                          have dk : decide ((k : Int) < 6) = true := dec_t (by omega)
                          have hNk := HNl.out k hlt
                          obtain ⟨n1, hn1⟩ : ∃ n1, N k = n1 := ⟨_, rfl⟩
                          have HN1 := Hd.mk hn1
                          rw [hn1] at hNk HF HM0
                          obtain ⟨wo, hwo⟩ : ∃ wo, wo = wr := ⟨_, rfl⟩
                          subst hwo
                          obtain ⟨g', e', _, _, hcells⟩ := HF0.out.list.cells (by rw [HV6.out]; omega)
                          injection e' with e'
                          injection e' with e'
                          subst e'
                          have hcell := hcells k (by rw [HV6.out]; exact hlt)
                          rw [HF.out] at hcell
                          clear hf hg hn1 hcells HNew
                          go_wp2_with fail
                          clear hcell
                          go_loopw [23] (fun gv wx => ∃ (A : Option Addr) (m c : Nat), gv = .slice A m c ∧ n1 ≤ m ∧ m ≤ n1 + 70 ∧ Hd (MemM wo wx wc.heap.size k vals (.slice A m c) m) ∧ Hd (Mor w10.heap.size wo wx wc.heap.size k (.slice (some ⟨gl, 0, none⟩) vals.length cl) u21 vals us N) ∧ Hd (Below wc.heap.size wc wx)) (fun gv _ => n1 + 70 - sliceLen gv)
                          case atStart => exact ⟨A1, n1, c1, rfl, by omega, by omega, HM0, HF0, HB⟩
                          case round =>
                            clear HM0 HF0 HB
                            obtain ⟨A, m, c, rfl, hm1, hm2, HMm, HFm, HB⟩ := hrel
                            obtain ⟨g', e', _, _, hcells⟩ := HFm.out.list.cells (by rw [HV6.out]; omega)
                            injection e' with e'
                            injection e' with e'
                            subst e'
                            have hcell := hcells k (by rw [HV6.out]; exact hlt)
                            rw [HF.out] at hcell
                            clear hcells
                            by_cases hml : m < n1 + 70
                            · obtain ⟨vs, hv, hvl, he⟩ := HMm.out.1
                              rw [mkL_len] at hvl he
                              have HV := Hd.mk hv
                              have HVl := Hd.mk hvl
                              have HE : Hd (∀ i, i < m → Own wc.heap.size wr (vs.getD i undef) [UInt8.ofNat (11 + k)]) := ⟨fun i hi => by have := he i hi; rwa [show (mkL m k).getD i [] = [UInt8.ofNat (11 + k)] by rw [List.getD_eq_getElem?_getD, mkL_get hi]; rfl] at this⟩
                              have HVq : Hd (vs.length ≤ 1099511627) := ⟨by rw [hvl]; omega⟩
                              have HVN : Hd (N k ≤ vs.length) := ⟨by rw [hvl, HN1.out]; exact hm1⟩
                              clear hv hvl he
                              go_wp2_with (at_builtin; refine wpList_appVk rfl (.tmp 160) (.tmp 165) rfl wc.heap.size _ (.slice (some ⟨wr.heap.size, 0, none⟩) 1 1) _ _ vs rfl rfl ((HV.out.alloc _).alloc _) (cell_new22g (by simp)) rfl HVq.out (hb_alloc0 (hb_alloc0 HB.out.size _) _) ?_; intro x7 w7 h1 h2 h3 h4; have ho : AppV wc.heap.size ((wr.alloc (.cells #[.int .u8 (g : Int)] 5)).alloc (.cells #[.slice (some ⟨wr.heap.size, 0, none⟩) 1 1] 22)) w7 (.slice A m c) x7 vs (.slice (some ⟨wr.heap.size, 0, none⟩) 1 1) := ⟨h1, h2, h3, h4⟩; have hb2 := ((Below.refl wr.heap.size wr).alloc (Nat.le_refl _) (.cells #[.int .u8 (g : Int)] 5)).alloc (by simp) (.cells #[.slice (some ⟨wr.heap.size, 0, none⟩) 1 1] 22); have hF2 := HFm.out.below hb2; have hM2 := HMm.out.below hb2; have hV2 := HV.out.below hb2; have hm7 := hM2.new hF2.size hV2 HVl.out (fun i hi => (HE.out i hi).below hb2) ((Own.new1 _ _ HM.out HB.out.size).alloc _) ho; have hf7 := hF2.app HBlk.out hM2 hV2 HVN.out ho; obtain ⟨Ax, cx, hx⟩ := hm7.1.form; rw [mkL_len] at hx; subst hx; have M7 := Hd.mk hm7; have F7 := Hd.mk hf7; have B7 : Hd (Below wc.heap.size wc w7) := ⟨((HB.out.alloc HB.out.size _).alloc (hb_alloc0 HB.out.size _) _).grown h2 (hb_alloc0 (hb_alloc0 HB.out.size _) _) (fun q hq => (HMm.out.1.lt q hq).1)⟩; clear h1 h2 h3 h4 ho hb2 hF2 hM2 hV2 hm7 hf7)
                              go_roundw
                              case rel => exact ⟨_, m + 1, _, rfl, by omega, by omega, M7, F7, B7⟩
                              case measure => simp [sliceLen]; omega
                            · obtain rfl : m = n1 + 70 := by omega
                              have HMn : Hd (MemM wo wr wc.heap.size k vals (.slice A (n1 + 70) c) (N k + 70)) := ⟨by rw [HN1.out]; exact HMm.out⟩
                              have HU1 : Hd (us.length ≤ 1000) := ⟨by rw [HUl.out]; omega⟩
                              clear HMm
                              go_wp2_with (at_builtin; refine wpList_appW rfl (.tmp 167) (.tmp 169) rfl w10.heap.size _ (.slice A (n1 + 70) c) _ _ us rfl rfl (World.ownsRow.alloc HFm.out.more _) (cell_new40 (by simp)) rfl HU1.out (hb_alloc0 (Nat.le_trans HSz.out HFm.out.size) _) ?_; intro x8 w8' hown hgr; have F8 := Hd.mk (HFm.out.next HBlk.out HMn.out hown hgr); have N8 := Hd.mk (Mor.newBlk HBlk.out HMn.out); have B8 : Hd (Below wc.heap.size wc w8') := ⟨bel_appW2 HB.out HB.out.size HFm.out.more (Nat.le_trans HBase.out (Nat.le_refl _)) hgr⟩; have S8 : Hd (w10.heap.size ≤ w8'.heap.size) := ⟨Nat.le_trans (Nat.le_trans HSz.out HFm.out.size) (Nat.le_trans (by simp) hgr.size)⟩; clear hown hgr)
                              go_roundw
                              case rel => exact ⟨k + 1, us ++ [.slice A (n1 + 70) c], by go_num, by omega, F8, ⟨by simp [HUl.out]⟩, N8, S8, B8⟩
                              case measure => simp [intOf]; omega
                        · obtain ⟨w11, hw11⟩ : ∃ w11, w11 = wr := ⟨_, rfl⟩
                          subst hw11
                          obtain ⟨Au, cu, rfl, _⟩ := HF0.out.more.form
                          have HU6 : Hd (us.length = 6) := ⟨by have := HUl.out; omega⟩
                          have HOwn : Hd (∀ j, j < 6 → Lst wc.heap.size w11 (vals.getD j undef) (mkL (N j) j)) := ⟨HF0.out.own⟩
                          have HGrp : Hd (∀ j, j < 6 → Lst wc.heap.size w11 (us.getD j undef) (mkL (N j + 70) j)) := ⟨fun j hj => HF0.out.grp j (by omega)⟩
                          have HLi := Hd.mk HF0.out.list
                          have HMo := Hd.mk HF0.out.more
                          clear HF0 HUl HNew hk HAp6 HOld HLv
                          go_wp2_with fail
                          go_loopw [24] (fun ix wr => ∃ k : Nat, ix = .int .i64 k ∧ k ≤ 2 ∧ Hd (Below w11.heap.size w11 wr)) (fun ix _ => 2 - (intOf ix).toNat)
                          case atStart => exact ⟨0, rfl, by omega, ⟨Below.refl _ _⟩⟩
                          case round =>
                            obtain ⟨k, rfl, hk, HE⟩ := hrel
                            by_cases hlt : k < 2
                            · obtain ⟨tv, wv, bl, Bs, q, hbl, hnl, hall, hRun⟩ := HTwo.out k hlt
                              have HAll := Hd.mk hall
                              have hbw := bel_call0 HB.out HE.out
                              obtain ⟨ct, cw, rt, rl⟩ := hall wr hbw
                              have CR := Hd.mk (readFrames_any tv bl 0 q Bs wr rt (TC.out.below hbw) (by omega) (by omega) hRun)
                              have i2 : (k : Int) < 2 := by omega
                              have d2 : decide ((k : Int) < 2) = true := dec_t (by omega)
                              clear hall hRun cw rt rl hbw
                              go_wp2_with fail
                              refine CR.out.mono ?_
                              rintro e w12 ⟨A12, c12, ns, rfl, hul, hv, he, -, hb⟩
                              have RN : Hd (RdL w12 (.slice A12 ns.length c12) Bs) := ⟨hv.rdl hul (by omega) fun i hi => (he i hi).rd⟩
                              have HE2 := Hd.mk (bel_call0 HE.out hb)
                              obtain ⟨_, cw, _, rl⟩ := HAll.out w12 (bel_call0 HB.out HE2.out)
                              have RL := Hd.mk rl
                              clear hul hv he hb CR ct rl
                              go_wp2_with fail
                              refine (sameAll_any _ wv Bs Bs true _ RN.out RL.out (by simp)).mono ?_
                              rintro e w13 ⟨rfl, hb⟩
                              have HE3 := Hd.mk (bel_call0 HE2.out hb)
                              clear hb cw
                              go_wp2_with fail
                              go_roundw
                              case rel => exact ⟨k + 1, by go_num, by omega, HE3⟩
                              case measure => simp [intOf]; omega
                            · obtain ⟨w14, hw14⟩ : ∃ w14, w14 = wr := ⟨_, rfl⟩
                              subst hw14
                              have HOwn4 : Hd (∀ j, j < 6 → Lst wc.heap.size w14 (vals.getD j undef) (mkL (N j) j)) := ⟨fun j hj => (HOwn.out j hj).below HE.out⟩
                              have HGrp4 : Hd (∀ j, j < 6 → Lst wc.heap.size w14 (us.getD j undef) (mkL (N j + 70) j)) := ⟨fun j hj => (HGrp.out j hj).below HE.out⟩
                              have HLi4 := Hd.mk (HLi.out.below HE.out)
                              have HMo4 := Hd.mk (HMo.out.below HE.out)
                              have B14 := Hd.mk (bel_call0 BC.out (bel_call0 HB.out HE.out))
                              clear HOwn HGrp HLi HMo HE HB hk
                              go_wp2_with fail
                              go_loopw [27] (fun ix wr => ∃ k : Nat, ix = .int .i64 k ∧ k ≤ 6 ∧ Hd (Below w14.heap.size w14 wr)) (fun ix _ => 6 - (intOf ix).toNat)
                              case atStart => exact ⟨0, rfl, by omega, ⟨Below.refl _ _⟩⟩
                              case round =>
                                obtain ⟨k, rfl, hk, HE⟩ := hrel
                                by_cases hlt : k < 6
                                · obtain ⟨gu, rfl, _, _, hcu⟩ := HMo4.out.cells (by rw [HU6.out]; omega)
                                  have hcu := hcu k (by rw [HU6.out]; exact hlt)
                                  obtain ⟨g', e', _, _, hcl⟩ := HLi4.out.cells (by rw [HV6.out]; omega)
                                  injection e' with e'
                                  injection e' with e'
                                  subst e'
                                  have hcl := hcl k (by rw [HV6.out]; exact hlt)
                                  have hMk := HGrp4.out k hlt
                                  have hLk := HOwn4.out k hlt
                                  obtain ⟨Am, cm, hm⟩ := hMk.form
                                  obtain ⟨Av, cv, hv⟩ := hLk.form
                                  rw [mkL_len] at hm hv
                                  rw [hm] at hMk hcu
                                  rw [hv] at hLk hcl
                                  obtain ⟨n1, hn1⟩ : ∃ n1, N k = n1 := ⟨_, rfl⟩
                                  have hNk := HNl.out k hlt
                                  rw [hn1] at hMk hLk hcu hcl hNk
                                  have MK := Hd.mk hMk
                                  have LK := Hd.mk hLk
                                  have CU := Hd.mk hcu
                                  have CL := Hd.mk hcl
                                  obtain ⟨g, hg⟩ : ∃ g, 11 + k = g := ⟨_, rfl⟩
                                  have g1 : g < 256 := by omega
                                  have e1 : (11 : Int) + (k : Int) = (g : Int) := by omega
                                  have HM : Hd ((g : Int) = ((UInt8.ofNat (11 + k)).toNat : Int)) := ⟨by rw [hg]; simp; omega⟩
                                  have ik : (k : Int) < (vals.length : Int) := by have := HV6.out; omega
                                  have iu : (k : Int) < (us.length : Int) := by have := HU6.out; omega
                                  have dk : decide ((k : Int) < 6) = true := dec_t (by omega)
                                  clear hMk hLk hm hv hn1 hg hcu hcl
                                  go_wp2_with fail
                                  go_loopw [28] (fun ix wq => ∃ m : Nat, ix = .int .i64 m ∧ m ≤ n1 + 70 ∧ Hd (Below w14.heap.size w14 wq)) (fun ix _ => n1 + 70 - (intOf ix).toNat)
                                  case atStart => exact ⟨0, rfl, by omega, HE⟩
                                  case round =>
                                    clear HE
                                    obtain ⟨m, rfl, hm, HE⟩ := hrel
                                    have cu1 := cell_below HE.out CU.out
                                    by_cases hml : m < n1 + 70
                                    · obtain ⟨gm, A5, c5, rfl, cm1, _, rm1⟩ := (MK.out.below HE.out).at_ m _ (mkL_get hml)
                                      have RM := Hd.mk rm1
                                      have hlen1 : ∀ x : UInt8, [x].length = 1 := fun _ => rfl
                                      clear rm1
                                      go_wp2_with fail
                                      refine (same_any _ _ [UInt8.ofNat (11 + k)] [UInt8.ofNat (11 + k)] true _ (RM.out.alloc _) (Rd.new1 _ _ _ HM.out) (by simp)).mono ?_
                                      rintro e w15 ⟨rfl, hb⟩
                                      have HE2 : Hd (Below w14.heap.size w14 w15) := ⟨bel_call HE.out _ hb⟩
                                      have cl1 := cell_below HE2.out CL.out
                                      clear hb cu1 cm1 hlen1
                                      by_cases hmn : m < n1
                                      · have d3 : decide ((m : Int) < (n1 : Int)) = true := dec_t (by omega)
                                        obtain ⟨gv, A6, c6, rfl, cm2, _, rm2⟩ := (LK.out.below HE2.out).at_ m _ (mkL_get hmn)
                                        have RV := Hd.mk rm2
                                        clear rm2
                                        go_wp2_with fail
                                        refine (same_any _ _ [UInt8.ofNat (11 + k)] [UInt8.ofNat (11 + k)] true _ (RV.out.alloc _) (Rd.new1 _ _ _ HM.out) (by simp)).mono ?_
                                        rintro e w16 ⟨rfl, hb⟩
                                        have HE3 : Hd (Below w14.heap.size w14 w16) := ⟨bel_call HE2.out _ hb⟩
                                        clear hb cl1 cm2
                                        go_wp2_with fail
                                        go_roundw
                                        case rel => exact ⟨m + 1, by go_num, by omega, HE3⟩
                                        case measure => simp [intOf]; omega
                                      · have d3 : decide ((m : Int) < (n1 : Int)) = false := dec_f (by omega)
                                        go_wp2_with fail
                                        go_roundw
                                        case rel => exact ⟨m + 1, by go_num, by omega, HE2⟩
                                        case measure => simp [intOf]; omega
                                    · obtain rfl : m = n1 + 70 := by omega
                                      go_wp2_with fail
                                      go_roundw
                                      case rel => exact ⟨k + 1, by go_num, by omega, HE⟩
                                      case measure => simp [intOf]; omega
                                · go_wp2_with fail
                                  refine (started_any _).mono ?_
                                  rintro e w17 ⟨rfl, hb⟩
                                  have B17 := Hd.mk (bel_call0 B14.out (bel_call0 HE.out hb))
                                  clear hb
                                  go_wp2
                                  go_ret
                                  exact ⟨rfl, B17.out⟩

end Go.Proofs.YtbobigaifkffoaaDoor
