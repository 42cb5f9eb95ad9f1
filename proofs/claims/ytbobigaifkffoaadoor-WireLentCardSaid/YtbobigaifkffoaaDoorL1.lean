import Derived.Test.YtbobigaifkffoaaDoorV
namespace Go.Proofs.YtbobigaifkffoaaDoor
open Go.RowKit
set_option linter.unusedVariables false
set_option linter.unusedSimpArgs false

theorem num_any (n : Int) (w : World) : Calls Tryd.prog 24 #[.int .i64 n] w fun e w' => e = .returned (.int .i64 n) ∧ w = w' := by
  go_enter Tryd.func24, Tryd.ntmps24
  go_wp2
  go_ret
  exact ⟨rfl, rfl⟩

/-- 'first': the first 2 MB. -/
theorem first_any (v : Value) (L : List UInt8) (w : World) (h : Rd w v L) :
    Calls Tryd.prog 18 #[v] w fun e w' => ∃ v', e = .returned v' ∧ Rd w v' (L.take 2097152) ∧ w = w' := by
  obtain ⟨A, cap, rfl, hc, hn, hl, hr⟩ := h
  have HR := Hd.mk hr
  have HN := Hd.mk hn
  clear hr hn
  by_cases hb : 2097152 < L.length
  · obtain ⟨i0, hi, _, _, _⟩ := info_parts info5
    have hcut := cut_to (P := Tryd.prog) 22 5 .i64 Tryd.underlying22 hi A L.length cap 2097152 (by omega) (by omega) hc
    clear hi
    go_enter Tryd.func18, Tryd.ntmps18
    go_wp2
    go_ret
    refine ⟨_, rfl, ⟨A, cap, ?_, ?_, HN.out, ?_, ?_⟩, rfl⟩
    · rw [List.length_take, Nat.min_eq_left (by omega)]; rfl
    · rw [List.length_take]; omega
    · rw [List.length_take]; omega
    · intro h0
      obtain ⟨ad, e, hcell⟩ := HR.out (by omega)
      refine ⟨ad, e, fun j hj => ?_⟩
      rw [List.length_take] at hj
      rw [hcell j (by omega)]
      rw [List.getD_eq_getElem?_getD, List.getD_eq_getElem?_getD, List.getElem?_take, if_pos (by omega)]
  · go_enter Tryd.func18, Tryd.ntmps18
    go_wp2
    go_ret
    rw [List.take_of_length_le (by omega)]
    exact ⟨_, rfl, ⟨A, cap, rfl, hc, HN.out, hl, HR.out⟩, rfl⟩

/-- 'part': the bytes from lo up to hi, in new memory. -/
theorem part_any (v : Value) (L : List UInt8) (lo hi : Int) (w : World) (h : Rd w v L) (h1 : -9223372036854775808 ≤ lo) (h2 : hi ≤ 9223372036854775807) :
    Calls Tryd.prog 19 #[v, .int .i64 lo, .int .i64 hi] w fun e w' => ∃ v', e = .returned v' ∧ Own w.heap.size w' v' (cutL L lo.toNat hi.toNat) ∧ Below w.heap.size w w' := by
  obtain ⟨A, cap, rfl, hc, hn, hl, hr⟩ := h
  have HR := Hd.mk hr
  have HN := Hd.mk hn
  clear hr hn
  go_enter Tryd.func19, Tryd.ntmps19
  go_upto_if 10 with (fail)
  go_cut [1] (fun v1 wc => v1 = .int .i64 (max lo 0) ∧ w = wc)
  case first =>
    by_cases hlo : lo < 0
    · go_wp2
      go_meet
      case rel => exact ⟨by rw [show max lo 0 = 0 by omega], rfl⟩
    · go_wp2
      go_meet
      case rel => exact ⟨by rw [show max lo 0 = lo by omega], rfl⟩
  case rest =>
    obtain ⟨rfl, rfl⟩ := hcut
    obtain ⟨l0, hl0⟩ : ∃ l0 : Nat, max lo 0 = l0 := ⟨lo.toNat, by omega⟩
    have hlo : lo.toNat = l0 := by omega
    rw [hl0]
    have HLO := Hd.mk hlo
    clear hl0 hlo h1
    go_wp2
    go_loopw [7, 8] (fun v i wr => ∃ k : Nat, l0 ≤ k ∧ i = .int .i64 k ∧ (k ≤ L.length ∧ (k : Int) ≤ hi ∨ k = l0) ∧ Hd (Own w.heap.size wr v (cutL L l0 k)) ∧ Hd (Below w.heap.size w wr))
      (fun _ i _ => L.length - (intOf i).toNat)
    case atStart => exact ⟨l0, by omega, rfl, by omega, ⟨by rw [show cutL L l0 l0 = [] from List.eq_nil_of_length_eq_zero (by rw [cutL_len]; omega)]; exact Own.nil _ _⟩, ⟨Below.refl _ _⟩⟩
    case round =>
      obtain ⟨k, hk0, rfl, hk, HO, HB⟩ := hrel
      by_cases c1 : (k : Int) < hi
      · by_cases c2 : k < L.length
        · obtain ⟨ad, c, rfl, hcell, HC⟩ := (HR.out.below HB.out).at_ k c2
          have hsz := HB.out.size
          have hle : (cutL L l0 k).length + [c].length ≤ 140737555464192 := by rw [cutL_len]; simp; omega
          have HL := Hd.mk hle
          clear hle hsz
          go_wp2_with (at_builtin; go_loud (refine wpList_app rfl _ _ rfl w.heap.size _ _ _ [c] rfl rfl (HO.out.alloc _) (Rd.new1 _ _ _ rfl) HL.out (by have := HB.out.size; simp; omega) ?_); intro v' w1 hown hgr; have HO1 := Hd.mk hown; have HG1 := Hd.mk hgr; clear hown hgr)
          go_roundw
          case rel => exact ⟨k + 1, by omega, by go_num, by omega, ⟨by rw [cutL_snoc _ _ _ _ hk0 HC.out]; exact HO1.out⟩, ⟨(HB.out.alloc HB.out.size _).grown HG1.out (by have := HB.out.size; simp; omega) (fun g hg => (HO.out.2.lt g hg).1)⟩⟩
          case measure => simp [intOf]; omega
        · have HK := Hd.mk hk
          clear hk
          go_wp2
          go_ret
          refine ⟨_, rfl, ?_, HB.out⟩
          rw [HLO.out, show cutL L l0 hi.toNat = cutL L l0 k by unfold cutL; rw [List.take_of_length_le (by omega), List.take_of_length_le (by omega)]]
          exact HO.out
      · have HK := Hd.mk hk
        clear hk
        go_wp2
        go_ret
        refine ⟨_, rfl, ?_, HB.out⟩
        have hk := HK.out
        rw [HLO.out]
        by_cases hkl : (k : Int) = hi
        · rw [show hi.toNat = k by omega]; exact HO.out
        · have hkl : k = l0 := by omega
          rw [show cutL L l0 hi.toNat = cutL L l0 k by rw [List.eq_nil_of_length_eq_zero (l := cutL L l0 hi.toNat) (by rw [cutL_len]; omega), List.eq_nil_of_length_eq_zero (l := cutL L l0 k) (by rw [cutL_len]; omega)]]
          exact HO.out

/-- 'part(b, 0, n)'. -/
theorem part_to (v : Value) (L X : List UInt8) (n : Nat) (w : World) (h : Rd w v L) (hn : n ≤ 9223372036854775807) (hX : L.take n = X) :
    Calls Tryd.prog 19 #[v, .int .i64 0, .int .i64 n] w fun e w' => ∃ v', e = .returned v' ∧ Own w.heap.size w' v' X ∧ Below w.heap.size w w' := by
  refine (part_any v L 0 n w h (by omega) (by omega)).mono ?_
  rintro e w' ⟨v', rfl, hown, hb⟩
  refine ⟨v', rfl, ?_, hb⟩
  rw [← hX]
  exact hown

end Go.Proofs.YtbobigaifkffoaaDoor
