/-
  THE WALK of the law's helper: laid.
-/
import Derived.Test.YtbobigaifkffoaaDoorL22
namespace Go.Proofs.YtbobigaifkffoaaDoor
open Go.RowKit
set_option linter.unusedVariables false
set_option linter.unusedSimpArgs false

def rowsW (Ls : List (List UInt8)) : List UInt8 := (Ls.map (· ++ room 75)).flatten
theorem rowsW_snoc {Ls : List (List UInt8)} {k : Nat} {L1 : List UInt8} (h : Ls[k]? = some L1) : rowsW (Ls.take (k + 1)) = rowsW (Ls.take k) ++ (L1 ++ room 75) := by
  obtain ⟨hk, rfl⟩ := List.getElem?_eq_some_iff.1 h
  unfold rowsW
  rw [List.take_succ_eq_append_getElem hk, List.map_append, List.flatten_append]
  simp
theorem rowsW_split {Ls : List (List UInt8)} {k : Nat} {L1 : List UInt8} (h : Ls[k]? = some L1) : rowsW Ls = rowsW (Ls.take k) ++ (L1 ++ (room 75 ++ rowsW (Ls.drop (k + 1)))) := by
  have h1 := rowsW_snoc h
  have h2 : rowsW Ls = rowsW (Ls.take (k + 1)) ++ rowsW (Ls.drop (k + 1)) := by
    unfold rowsW
    rw [← List.flatten_append, ← List.map_append, List.take_append_drop]
  rw [h2, h1]
  simp
theorem rowsW_len : ∀ Ls : List (List UInt8), (rowsW Ls).length = Ls.flatten.length + 75 * Ls.length
  | [] => rfl
  | L :: Ls => by
    have := rowsW_len Ls
    unfold rowsW at *
    simp only [List.map_cons, List.flatten_cons, List.length_append, List.length_cons, room_len]
    omega
theorem rowsW_take (Ls : List (List UInt8)) (k : Nat) : (rowsW (Ls.take k)).length ≤ (rowsW Ls).length := by
  have h2 : rowsW Ls = rowsW (Ls.take k) ++ rowsW (Ls.drop k) := by
    unfold rowsW
    rw [← List.flatten_append, ← List.map_append, List.take_append_drop]
  rw [h2, List.length_append]
  omega
theorem rowsW_cut {Ls : List (List UInt8)} {k : Nat} {L1 : List UInt8} (h : Ls[k]? = some L1) : cutL (rowsW Ls) (rowsW (Ls.take k)).length ((rowsW (Ls.take k)).length + L1.length) = L1 := by
  show ((rowsW Ls).take _).drop _ = L1
  rw [take_drop_add, rowsW_split h, List.drop_left, List.take_left]

def OutL (Ls : List (List UInt8)) (w : World) (e : Ending) (w' : World) : Prop :=
  ∃ Aw cw Al cl vs X, rowsW Ls = X ∧ e = .returned (.tuple #[.slice Aw X.length cw, .slice Al vs.length cl]) ∧ vs.length = Ls.length ∧ Own w.heap.size w' (.slice Aw X.length cw) X ∧
    OwnV w.heap.size w' (.slice Al vs.length cl) vs ∧ (∀ i, i < Ls.length → ∀ W, Rd W (.slice Aw X.length cw) X → Rd W (vs.getD i undef) (Ls.getD i [])) ∧ Below w.heap.size w w'

set_option maxRecDepth 100000 in
set_option maxHeartbeats 1600000 in
/-- 'laid'. -/
theorem laid_any (v : Value) (Ls : List (List UInt8)) (w : World) (h : RdL w v Ls) (hsm : Ls.flatten.length + Ls.length ≤ 4194304) :
    Calls Tryd.prog 66 #[v] w (OutL Ls w) := by
  obtain ⟨A, cap, rfl, hls⟩ := h.form
  have HR := Hd.mk h
  have hWl := rowsW_len Ls
  have HWl : Hd ((rowsW Ls).length ≤ 400000000) := ⟨by omega⟩
  clear h hWl
  go_enter Tryd.func66, Tryd.ntmps66
  go_wp2_with fail
  go_loopw [4, 5] (fun b i wr => ∃ k : Nat, i = .int .i64 k ∧ k ≤ Ls.length ∧ Hd (Own w.heap.size wr b (rowsW (Ls.take k))) ∧ Hd (Below w.heap.size w wr)) (fun _ i _ => Ls.length - (intOf i).toNat)
  case atStart => exact ⟨0, rfl, by omega, ⟨by simpa [rowsW] using Own.nil _ _⟩, ⟨Below.refl _ _⟩⟩
  case round =>
    obtain ⟨k, rfl, hk, HO, HB⟩ := hrel
    by_cases hlt : k < Ls.length
    · obtain ⟨ad, A1, c1, L1, rfl, hcell, hl1, HL1, HR1⟩ := (HR.out.below HB.out).at_ k hlt
      have hfl := rowsW_snoc HL1.out
      have hle := rowsW_take Ls (k + 1)
      have hwl := HWl.out
      rw [hfl, List.length_append] at hle
      obtain ⟨X1, hX1⟩ : ∃ X1, L1 ++ room 75 = X1 := ⟨_, rfl⟩
      have hx1 : L1.length ≤ X1.length := by rw [← hX1, List.length_append]; omega
      rw [hX1] at hfl hle
      have HF := Hd.mk hfl
      have HLE : Hd ((rowsW (Ls.take k)).length + X1.length ≤ 140737555464192) := ⟨by omega⟩
      have HCall := Hd.mk (roomy_e _ L1 X1 wr HR1.out (by omega) hX1)
      clear hfl hle hwl hX1 hx1
      go_wp2_with fail
      refine HCall.out.mono ?_
      rintro e w1 ⟨A2, c2, rfl, ho, hb⟩
      have R1 := Hd.mk ho.rd
      have O1 := Hd.mk (HO.out.below hb)
      have B1 := Hd.mk (bel_call0 HB.out hb)
      clear ho hb HCall HO HB
      go_wp2_with (at_builtin; refine wpList_app rfl (.tmp 16) (.tmp 21) rfl w.heap.size _ _ _ X1 rfl rfl O1.out R1.out HLE.out B1.out.size ?_; intro u3 w3 hown hgr; have O3 := Hd.mk hown; have B3 := Hd.mk (bel_app0 B1.out O1.out hgr); clear hown hgr)
      go_roundw
      case rel => exact ⟨k + 1, by go_num, by omega, ⟨by rw [HF.out]; exact O3.out⟩, B3⟩
      case measure => simp [intOf]; omega
    · have hke : rowsW (Ls.take k) = rowsW Ls := by rw [List.take_of_length_le (by omega)]
      rw [hke] at HO
      obtain ⟨X, hX⟩ : ∃ X, rowsW Ls = X := ⟨_, rfl⟩
      rw [hX] at HO HWl
      have hXl := HWl.out
      have HX := Hd.mk hX
      obtain ⟨Aw, cw, rfl⟩ := HO.out.rd.form
      clear hke hX
      go_wp2_with fail
      go_loopw [6, 7, 8] (fun l at_ i wq => ∃ (k a : Nat) (vs : List Value), i = .int .i64 k ∧ at_ = .int .i64 a ∧ k ≤ Ls.length ∧ a ≤ X.length ∧ Hd ((rowsW (Ls.take k)).length = a) ∧ Hd (vs.length = k) ∧ Hd (OwnV w.heap.size wq l vs) ∧
          Hd (Own w.heap.size wq (.slice Aw X.length cw) X) ∧ Hd (∀ i, i < k → ∀ W, Rd W (.slice Aw X.length cw) X → Rd W (vs.getD i undef) (Ls.getD i [])) ∧ Hd (Below w.heap.size w wq)) (fun _ _ i _ => Ls.length - (intOf i).toNat)
      case atStart => exact ⟨0, 0, [], rfl, rfl, by omega, by omega, ⟨by simp [rowsW]⟩, ⟨rfl⟩, ⟨OwnV.nil _ _⟩, HO, ⟨fun i hi => absurd hi (Nat.not_lt_zero _)⟩, HB⟩
      case round =>
        clear HO HB
        obtain ⟨k, a, vs, rfl, rfl, hk, ha, HA, HVl0, HV, HP, HE, HQ⟩ := hrel
        by_cases hlt2 : k < Ls.length
        · obtain ⟨ad, A1, c1, L1, rfl, hcell, hl1, HL1, HR1⟩ := (HR.out.below HQ.out).at_ k hlt2
          have hc := HP.out.rd.slice
          have hcw := hc.2.1
          have hfl := rowsW_snoc HL1.out
          have hle := rowsW_take Ls (k + 1)
          rw [HX.out] at hle
          have hfl2 := congrArg List.length hfl
          rw [List.length_append, List.length_append, room_len, HA.out] at hfl2
          have HA2 : Hd (Hd ((rowsW (Ls.take (k + 1))).length = a + L1.length + 75) ∧ a + L1.length + 75 ≤ X.length) := ⟨⟨by omega⟩, by omega⟩
          have HVl : Hd (vs.length ≤ 1099511627776) := ⟨by have := HVl0.out; omega⟩
          have haq : a + L1.length + 75 ≤ X.length := HA2.out.2
          have hcut0 : cutL X a (a + L1.length) = L1 := by
            have := rowsW_cut HL1.out
            rwa [HA.out, HX.out] at this
          have i1 : (k : Int) < (Ls.length : Int) := by omega
          clear hc hfl hle hfl2
          by_cases hz : L1.length = 0
          · have b1 : ((L1.length : Int) == 0) = true := beq_t (by omega)
            have hsl := HR1.out.slice
            have HEl : Hd (∀ W, Rd W (.slice Aw X.length cw) X → Rd W (.slice A1 L1.length c1) L1) := ⟨fun W _ => ⟨A1, c1, rfl, hsl.2.1, hsl.2.2.1, hsl.2.2.2.1, fun h0 => by omega⟩⟩
            clear hz hsl hcut0
            go_wp2_with (at_builtin; refine wpList_appV rfl (.tmp 36) (.tmp 41) rfl w.heap.size _ A1 L1.length c1 _ _ vs rfl rfl (HV.out.alloc _) (cell_new22 _ _) HVl.out (hb_alloc HQ.out (Nat.le_refl _) _) ?_; intro u2 w2 hown hgr; have V2 := Hd.mk hown; have O2 := Hd.mk (own_other (HP.out.alloc _) (HV.out.alloc _) hgr); have B2 := Hd.mk (bel_appV HQ.out HV.out hgr); clear hown hgr)
            go_roundw
            case rel =>
              refine ⟨k + 1, a + L1.length + 75, vs ++ [.slice A1 L1.length c1], by go_num, by go_num, by omega, HA2.out.2, HA2.out.1, ⟨by simpa using HVl0.out⟩, V2, O2, ⟨fun i hi => ?_⟩, B2⟩
              have hv := HVl0.out
              by_cases hid : i < k
              · rw [List.getD_eq_getElem?_getD, List.getElem?_append_left (by omega), ← List.getD_eq_getElem?_getD]
                exact HE.out i hid
              · obtain rfl : i = k := by omega
                rw [List.getD_eq_getElem?_getD, List.getElem?_append_right (by omega), hv, Nat.sub_self, List.getD_eq_getElem?_getD, HL1.out]
                exact HEl.out
            case measure => simp [intOf]; omega
          · have b1 : ((L1.length : Int) == 0) = false := beq_f (by omega)
            obtain ⟨q, hq⟩ : ∃ q, a + L1.length = q := ⟨_, rfl⟩
            have hqi : (a : Int) + (L1.length : Int) = (q : Int) := by omega
            have hzl : L1.length = q - a := by omega
            obtain ⟨i0', hi0', _, hz1', _⟩ := info_parts info5
            have hcut := cut_mid (P := Tryd.prog) 22 5 .i64 .i64 Tryd.underlying22 hi0' 1 hz1' Aw X.length cw a q (by omega) (by omega) (by omega) hcw
            rw [show ((a : Int)).toNat = a by omega, show ((q : Int)).toNat = q by omega] at hcut
            obtain ⟨adc, hAD⟩ : ∃ x, (if cw = a then Aw else Aw.map (·.add (a * 1))) = x := ⟨_, rfl⟩
            have hrc : ∀ W, Rd W (.slice Aw X.length cw) X → Rd W (.slice adc L1.length (cw - a)) L1 := fun W hW => by
              have := hW.cut a q (by omega) (by omega)
              rw [← hq, hcut0, hq, ← hzl, hAD] at this
              exact this
            rw [hAD, ← hzl] at hcut
            have HEl := Hd.mk hrc
            obtain ⟨cz, hcz⟩ : ∃ cz, cw - a = cz := ⟨_, rfl⟩
            rw [hcz] at hcut HEl
            clear hz hi0' hz1' hAD hrc hcut0 hq hzl hcz
            go_wp2_with (at_builtin; refine wpList_appV rfl (.tmp 43) (.tmp 50) rfl w.heap.size _ adc L1.length cz _ _ vs rfl rfl (HV.out.alloc _) (cell_new22 _ _) HVl.out (hb_alloc HQ.out (Nat.le_refl _) _) ?_; intro u2 w2 hown hgr; have V2 := Hd.mk hown; have O2 := Hd.mk (own_other (HP.out.alloc _) (HV.out.alloc _) hgr); have B2 := Hd.mk (bel_appV HQ.out HV.out hgr); clear hown hgr)
            go_roundw
            case rel =>
              refine ⟨k + 1, a + L1.length + 75, vs ++ [.slice adc L1.length cz], by go_num, by go_num, by omega, HA2.out.2, HA2.out.1, ⟨by simpa using HVl0.out⟩, V2, O2, ⟨fun i hi => ?_⟩, B2⟩
              have hv := HVl0.out
              by_cases hid : i < k
              · rw [List.getD_eq_getElem?_getD, List.getElem?_append_left (by omega), ← List.getD_eq_getElem?_getD]
                exact HE.out i hid
              · obtain rfl : i = k := by omega
                rw [List.getD_eq_getElem?_getD, List.getElem?_append_right (by omega), hv, Nat.sub_self, List.getD_eq_getElem?_getD, HL1.out]
                exact HEl.out
            case measure => simp [intOf]; omega
        · obtain ⟨Al, cl, rfl, _⟩ := HV.out.form
          have hkk : k = Ls.length := by omega
          have HK := Hd.mk hkk
          clear hkk
          go_wp2
          go_ret2
          exact ⟨Aw, cw, Al, cl, vs, X, HX.out, rfl, HVl0.out.trans HK.out, HP.out, HV.out, fun i hi => HE.out i (by have := HK.out; omega), HQ.out⟩

end Go.Proofs.YtbobigaifkffoaaDoor
