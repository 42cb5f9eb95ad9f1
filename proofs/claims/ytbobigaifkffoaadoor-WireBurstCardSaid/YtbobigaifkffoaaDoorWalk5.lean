import Derived.Test.YtbobigaifkffoaaDoorL11
import Derived.Test.YtbobigaifkffoaaDoorL12
namespace Go.Proofs.YtbobigaifkffoaaDoor
open Go.RowKit
set_option linter.unusedVariables false
set_option linter.unusedSimpArgs false

/-- A body that may not be framed. -/
theorem burst_bad (v : Value) (L : List UInt8) (k : Int) (m : Nat) (w : World) (h : Rd w v L) (hT : TabOk w) (hbad : L.length = 0 ∨ 1048576 < L.length) :
    Calls Tryd.prog 5 #[v, .int .i64 k, .int .u32 m] w fun e w' => e = .returned (.bool true) ∧ Below w.heap.size w w' := by
  obtain ⟨A, cap, rfl⟩ := h.form
  obtain ⟨er, her⟩ : ∃ er, frmErr L = er := ⟨_, rfl⟩
  have hpos : 13 ≤ er := by
    rcases hbad with h | h
    · rw [(frm_empty h).1] at her; omega
    · rw [(frm_over h).1] at her; omega
  obtain ⟨F, hF⟩ : ∃ F, frmOut L = F := ⟨_, rfl⟩
  have HC := Hd.mk (frame_e _ [L] L F er _ (RdL.new1 h) (hT.alloc _) (by simp) her hF)
  have hl := h.slice.2.2.2.1
  clear her hF h hT
  go_enter Tryd.func5, Tryd.ntmps5
  go_wp2_with fail
  refine HC.out.mono ?_
  rintro e w1 ⟨Af, cf, rfl, hf, hb⟩
  have B1 := Hd.mk (bel_call (Below.refl _ _) _ hb)
  clear hf hb HC
  rcases hbad with h0 | h0
  · have h1 : ((L.length : Int) == 0) = true := beq_t (by omega)
    clear h0
    go_wp2_with (go_at_call 24; refine (num_any _ _).mono ?_; rintro e w' ⟨rfl, rfl⟩)
    go_ret
    exact ⟨ret_bool (bne_t (by omega)), B1.out⟩
  · have h1 : ((L.length : Int) == 0) = false := beq_f (by omega)
    have h2 : decide (1048576 < (L.length : Int)) = true := dec_t (by omega)
    clear h0
    go_wp2_with (go_at_call 24; refine (num_any _ _).mono ?_; rintro e w' ⟨rfl, rfl⟩)
    go_ret
    exact ⟨ret_bool (bne_t (by omega)), B1.out⟩

set_option maxRecDepth 100000 in
set_option maxHeartbeats 4000000 in
/-- A sound body. -/
theorem burst_good (v : Value) (L : List UInt8) (k : Int) (m : Nat) (w : World) (h : Rd w v L) (hT : TabOk w) (h0 : L.length ≠ 0) (h1 : L.length ≤ 1048576) (hm : m < 4294967296) :
    Calls Tryd.prog 5 #[v, .int .i64 k, .int .u32 m] w fun e w' => e = .returned (.bool true) ∧ Below w.heap.size w w' := by
  obtain ⟨A, cap, rfl⟩ := h.form
  obtain ⟨u, hu⟩ : ∃ u, (uenc L.length).length = u := ⟨_, rfl⟩
  have hu1 : 1 ≤ u := by rw [← hu]; exact uenc_pos _
  have hu10 : u ≤ 10 := by rw [← hu]; exact uenc_len10 (Is64.mk (by omega))
  have hfl := frm_len L
  rw [hu] at hfl
  have HBurst : Hd (∀ a : Nat, a < 8 * (L.length + 4) → (trn (8 * u + a) ((frm L).length - 1) 32 0 m (frm L) false).2 = true → rdF (trn (8 * u + a) ((frm L).length - 1) 32 0 m (frm L) false).1 0 = ([], 0, 16)) := ⟨fun a ha hy => by
    have := rdF_burst L h0 h1 a m ha
    rw [hu] at this
    exact this hy⟩
  have HBack : Hd (rdF (frm L) 0 = (L, (frm L).length, 0)) := ⟨by
    have := rdF_back [] L [] h0 h1
    simpa using this⟩
  have HG := Hd.mk (frm_good h0 h1)
  obtain ⟨F, hF⟩ : ∃ F, frm L = F := ⟨_, rfl⟩
  rw [hF] at hfl HBurst HBack HG
  have HC := Hd.mk (frame_e _ [L] L F 0 _ (RdL.new1 h) (hT.alloc _) (by simp) HG.out.1 HG.out.2)
  have hne : F ≠ [] := fun h => by rw [h] at hfl; simp at hfl
  have HNe := Hd.mk hne
  have HFl := Hd.mk hfl
  have lF : u + L.length + 5 ≤ F.length := by omega
  have lF2 : F.length ≤ u + L.length + 5 := by omega
  have b1 : ((L.length : Int) == 0) = false := beq_f (by omega)
  have b2 : decide (1048576 < (L.length : Int)) = false := dec_f (by omega)
  have HR := Hd.mk h
  have HT := Hd.mk hT
  clear hF h hT h0 hu hfl hne
  go_enter Tryd.func5, Tryd.ntmps5
  go_wp2_with fail
  refine HC.out.mono ?_
  rintro e w1 ⟨Af, cf, rfl, hf, hb⟩
  have RF := Hd.mk hf.rd
  have B1 := Hd.mk (bel_call (Below.refl _ _) _ hb)
  clear hf hb HC
  go_wp2_with fail
  refine (readFrame_e _ F L 0 F.length 0 w1 RF.out (HT.out.below B1.out) (by omega) HBack.out).mono ?_
  rintro e w2 ⟨Ab, cb, rfl, hbo, hb⟩
  have RF2 := Hd.mk (RF.out.below hb)
  have B2 := Hd.mk (bel_call0 B1.out hb)
  clear hbo hb B1 RF
  have b4 : decide ((F.length : Int) - L.length - 5 < 1) = false := dec_f (by omega)
  by_cases c1 : k < 0
  · have d1 : decide (k < 0) = true := dec_t c1
    go_wp2_with (go_at_call 24; refine (num_any _ _).mono ?_; rintro e w' ⟨rfl, rfl⟩)
    go_ret
    exact ⟨rfl, B2.out⟩
  obtain ⟨a, rfl⟩ : ∃ a : Nat, k = a := ⟨k.toNat, by omega⟩
  have d1 : decide ((a : Int) < 0) = false := dec_f c1
  clear c1
  by_cases c2 : 8 * (L.length + 4) ≤ a
  · have d2 : decide (8 * ((L.length : Int) + 4) ≤ (a : Int)) = true := dec_t (by omega)
    go_wp2_with (go_at_call 24; refine (num_any _ _).mono ?_; rintro e w' ⟨rfl, rfl⟩)
    go_ret
    exact ⟨rfl, B2.out⟩
  have d2 : decide (8 * ((L.length : Int) + 4) ≤ (a : Int)) = false := dec_f (by omega)
  obtain ⟨⟨R, any⟩, hRa⟩ : ∃ x, trn (8 * u + a) (F.length - 1) 32 0 m F false = x := ⟨_, rfl⟩
  have C := turned_any (.slice Af F.length cf) F (8 * u + a) m (F.length - 1) w2 RF2.out (by omega) hm (by omega) HNe.out (by omega) R any hRa
  rw [show ((8 * u + a : Nat) : Int) = 8 * ((F.length : Int) - L.length - 5) + a by omega, show ((F.length - 1 : Nat) : Int) = (F.length : Int) - 1 by omega] at C
  have HC := Hd.mk C
  have hbu := HBurst.out a (by omega)
  rw [hRa] at hbu
  have HBu := Hd.mk hbu
  clear C hbu hRa HBurst
  go_wp2_with (go_at_call 24; refine (num_any _ _).mono ?_; rintro e w' ⟨rfl, rfl⟩)
  refine HC.out.mono ?_
  rintro e w3 ⟨Ar, cr, rfl, hr, hb⟩
  have RR := Hd.mk hr.rd
  have B3 := Hd.mk (bel_call0 B2.out hb)
  clear hr hb B2 RF2 HC
  cases any with
  | false =>
    go_wp2
    go_ret
    exact ⟨rfl, B3.out⟩
  | true =>
    have hX := HBu.out rfl
    have HX := Hd.mk hX
    clear hX HBu
    go_wp2_with fail
    refine (readFrame_e _ R [] 0 0 16 w3 RR.out (HT.out.below B3.out) (by omega) HX.out).mono ?_
    rintro e w4 ⟨An, cn, rfl, hn, hb⟩
    have B4 := Hd.mk (bel_call0 B3.out hb)
    clear hn hb B3
    go_wp2_with (go_at_call 24; refine (num_any _ _).mono ?_; rintro e w' ⟨rfl, rfl⟩)
    go_ret
    exact ⟨rfl, B4.out⟩

theorem wireBurst_walk (v : Value) (L : List UInt8) (k m : Int) (w : World) (h : Rd w v L) (hT : TabOk w) (hm : 0 ≤ m ∧ m ≤ 4294967295) :
    Calls Tryd.prog 5 #[v, .int .i64 k, .int .u32 m] w fun e w' => e = .returned (.bool true) ∧ Below w.heap.size w w' := by
  obtain ⟨m, rfl⟩ : ∃ n : Nat, m = n := ⟨m.toNat, by omega⟩
  by_cases h0 : L.length = 0
  · exact burst_bad v L k m w h hT (.inl h0)
  · by_cases h1 : L.length ≤ 1048576
    · exact burst_good v L k m w h hT h0 h1 (by omega)
    · exact burst_bad v L k m w h hT (.inr (by omega))

end Go.Proofs.YtbobigaifkffoaaDoor
