/-
  THE WALK of the law's helper: stand.
-/
import Derived.Test.YtbobigaifkffoaaDoorL36
namespace Go.Proofs.YtbobigaifkffoaaDoor
open Go.RowKit
set_option linter.unusedVariables false
set_option linter.unusedSimpArgs false

theorem txt_lo (i n k j : Nat) (h : j < n) : (txt i n k)[j]? = some (mk1 i) := by
  unfold txt
  rw [List.getElem?_append_left (by simpa using h), List.getElem?_replicate, if_pos h]

set_option maxRecDepth 100000 in
set_option maxHeartbeats 3000000 in
/-- 'stand'. -/
theorem stand_any (v1 v2 : Value) (Ms Gs : List (List UInt8)) (N : Nat → Nat) (w : World) (h1 : RdL w v1 Ms) (h2 : RdL w v2 Gs) (hl : Gs.length = 3 * Ms.length) (hn : Ms.length ≤ 1099511627)
    (hM : ∀ i, i < Ms.length → Ms.getD i [] = txt i (N i) 0) (hG : ∀ i c, i < Ms.length → c < 3 → Gs.getD (3 * i + c) [] = txt i (N i) (cnt c)) :
    Calls Tryd.prog 42 #[v1, v2] w fun e w' => e = .returned (.bool true) ∧ w = w' := by
  obtain ⟨A1, c1, rfl, _⟩ := h1.form
  obtain ⟨A2, c2, rfl, _⟩ := h2.form
  have R1 := Hd.mk h1
  have R2 := Hd.mk h2
  have HL := Hd.mk hl
  have HM := Hd.mk hM
  have HG := Hd.mk hG
  clear h1 h2 hl hM hG
  go_enter Tryd.func42, Tryd.ntmps42
  go_wp2
  go_loop [5] (fun i => ∃ k : Nat, i = .int .i64 k ∧ k ≤ Ms.length) (fun i => Ms.length - (intOf i).toNat)
  case atStart => exact ⟨0, rfl, by omega⟩
  case round =>
    obtain ⟨k, rfl, hk⟩ := hrel
    by_cases hlt : k < Ms.length
    · have hgl := HL.out
      obtain ⟨ad1, Aa, ca, La, rfl, hca, hla, HLa, HRa⟩ := R1.out.at_ k hlt
      obtain ⟨ad2, A0, c0, L0, rfl, hc0, hl0, HL0, HR0⟩ := R2.out.at_ (3 * k) (by omega)
      obtain ⟨_, Ab, cb, Lb, e, hcb, hlb, HLb, HRb⟩ := R2.out.at_ (3 * k + 1) (by omega)
      injection e with e
      subst e
      obtain ⟨_, Ac, cc, Lc, e, hcc, hlc, HLc, HRc⟩ := R2.out.at_ (3 * k + 2) (by omega)
      injection e with e
      subst e
      have ea : La = txt k (N k) 0 := by
        have := HM.out k hlt
        rw [List.getD_eq_getElem?_getD, HLa.out] at this; exact this
      have e0 : L0 = txt k (N k) 1 := by
        have := HG.out k 0 hlt (by omega)
        rw [List.getD_eq_getElem?_getD, Nat.add_zero, HL0.out] at this; exact this
      have eb : Lb = txt k (N k) 2 := by
        have := HG.out k 1 hlt (by omega)
        rw [List.getD_eq_getElem?_getD, HLb.out] at this; exact this
      have ec : Lc = txt k (N k) 70 := by
        have := HG.out k 2 hlt (by omega)
        rw [List.getD_eq_getElem?_getD, HLc.out] at this; exact this
      have la := congrArg List.length ea
      have l0 := congrArg List.length e0
      have lb := congrArg List.length eb
      have lc := congrArg List.length ec
      rw [txt_len] at la l0 lb lc
      have n0 : ((L0.length : Int) != (La.length : Int) + 1) = false := bne_f (by omega)
      have nb : ((Lb.length : Int) != (La.length : Int) + 2) = false := bne_f (by omega)
      have nc : ((Lc.length : Int) != (La.length : Int) + 70) = false := bne_f (by omega)
      have i0 : 3 * (k : Int) < (Gs.length : Int) := by omega
      have ib : 3 * (k : Int) + 1 < (Gs.length : Int) := by omega
      have ic : 3 * (k : Int) + 2 < (Gs.length : Int) := by omega
      have hcb' := cell_succ hcb
      have hcc' := cell_succ hcc
      have EA := Hd.mk ea
      have LA := Hd.mk la
      have hgs : Gs.length ≤ 140737555464192 := by omega
      clear hgl ea e0 eb ec la l0 lb lc
      go_wp2_with fail
      clear n0 nb nc i0 ib ic hcb' hcc' hc0 hcb hcc HRb HRc HLb HLc HL0 HR0 hl0 hlb hlc
      obtain ⟨g, hg⟩ : ∃ g, 1 + k % 250 = g := ⟨_, rfl⟩
      have g1 : g < 256 := by omega
      have e1 : ((1 : Int) + (Int.tmod (k : Int) 250)) = (g : Int) := by rw [Int.tmod_eq_emod_of_nonneg (by omega)]; omega
      have e2 : ((1 : Int) + ((k : Int) % 250)) = (g : Int) := by omega
      have HM1 : Hd (((mk1 k).toNat : Int) = (g : Int)) := ⟨by rw [show mk1 k = UInt8.ofNat g by rw [← hg]; rfl]; simp; omega⟩
      obtain ⟨gg, hgg⟩ : ∃ gg, 251 + k % 5 = gg := ⟨_, rfl⟩
      have gg1 : gg < 256 := by omega
      have e3 : ((251 : Int) + (Int.tmod (k : Int) 5)) = (gg : Int) := by rw [Int.tmod_eq_emod_of_nonneg (by omega)]; omega
      have e4 : ((251 : Int) + ((k : Int) % 5)) = (gg : Int) := by omega
      have HM2 : Hd (((mk2 k).toNat : Int) = (gg : Int)) := ⟨by rw [show mk2 k = UInt8.ofNat gg by rw [← hgg]; rfl]; simp; omega⟩
      have hgl3 : 3 * k + 3 ≤ Gs.length := by have := HL.out; omega
      clear hg hgg
      go_loop [7] (fun s7 => ∃ q : Nat, s7 = .int .i64 q ∧ 3 * k ≤ q ∧ q ≤ 3 * k + 3) (fun s7 => 3 * k + 3 - (intOf s7).toNat)
      case atStart => exact ⟨3 * k, by go_num, by omega, by omega⟩
      case round =>
        obtain ⟨q, rfl, hq1, hq2⟩ := hrel
        by_cases hq : q < 3 * k + 3
        · obtain ⟨_, Aq, cq, Lq, e, hcq, hlq, HLq, HRq⟩ := R2.out.at_ q (by omega)
          injection e with e
          subst e
          have EQ : Hd (Lq = txt k (N k) (cnt (q - 3 * k))) := ⟨by
            have := HG.out k (q - 3 * k) hlt (by omega)
            rw [show 3 * k + (q - 3 * k) = q by omega, List.getD_eq_getElem?_getD, HLq.out] at this; exact this⟩
          have iq : (q : Int) < (Gs.length : Int) := by omega
          have iq2 : (q : Int) < 3 * (k : Int) + 3 := by omega
          go_wp2_with fail
          go_loop [8] (fun s8 => ∃ j : Nat, s8 = .int .i64 j ∧ j ≤ Lq.length) (fun s8 => Lq.length - (intOf s8).toNat)
          case atStart => exact ⟨0, by go_num, by omega⟩
          case round =>
            obtain ⟨j, rfl, hj⟩ := hrel
            by_cases hjl : j < Lq.length
            · obtain ⟨adq, b1, rfl, hb1, HB1⟩ := HRq.out.slice.2.2.2.2.at_ j hjl
              by_cases hjn : j < La.length
              · obtain ⟨ada, b2, rfl, hb2, HB2⟩ := HRa.out.slice.2.2.2.2.at_ j hjn
                have hjn2 : j < N k := by have := LA.out; omega
                have v1 : ((b1.toNat : Int) != (g : Int)) = false := bne_f (by
                  have := HB1.out
                  rw [EQ.out, txt_lo _ _ _ _ hjn2] at this
                  injection this with this
                  rw [← this]; exact HM1.out)
                have v2 : ((b2.toNat : Int) != (g : Int)) = false := bne_f (by
                  have := HB2.out
                  rw [EA.out, txt_lo _ _ _ _ hjn2] at this
                  injection this with this
                  rw [← this]; exact HM1.out)
                have d1 : decide ((La.length : Int) ≤ (j : Int)) = false := dec_f (by omega)
                have d2 : decide ((j : Int) < (La.length : Int)) = true := dec_t (by omega)
                go_wp2_with fail
                go_round
                case rel => exact ⟨j + 1, by go_num, by omega⟩
                case measure => simp [intOf]; omega
              · have v1 : ((b1.toNat : Int) != (gg : Int)) = false := bne_f (by
                  have := HB1.out
                  have hlen := congrArg List.length EQ.out
                  rw [txt_len] at hlen
                  rw [EQ.out, txt_get _ _ _ _ (by have := LA.out; omega) (by omega)] at this
                  injection this with this
                  rw [← this]; exact HM2.out)
                have d1 : decide ((La.length : Int) ≤ (j : Int)) = true := dec_t (by omega)
                have d2 : decide ((j : Int) < (La.length : Int)) = false := dec_f (by omega)
                go_wp2_with fail
                go_round
                case rel => exact ⟨j + 1, by go_num, by omega⟩
                case measure => simp [intOf]; omega
            · go_wp2_with fail
              go_round
              case rel => exact ⟨q + 1, by go_num, by omega, by omega⟩
              case measure => simp [intOf]; omega
        · go_wp2_with fail
          go_round
          case rel => exact ⟨k + 1, by go_num, by omega⟩
          case measure => simp [intOf]; omega
    · go_wp2
      go_ret
      exact ⟨rfl, rfl⟩

end Go.Proofs.YtbobigaifkffoaaDoor
