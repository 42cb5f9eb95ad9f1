import Derived.Test.YtbobigaifkffoaaDoorV
namespace Go.Proofs.YtbobigaifkffoaaDoor
open Go.RowKit
set_option linter.unusedVariables false
set_option linter.unusedSimpArgs false

theorem bel_drewN {w wr : World} (h : Below w.heap.size w wr) (n : Nat) : Below w.heap.size w (wr.drewN n) := ⟨h.os, h.tape, h.output, h.size, h.block⟩
theorem list_ne {L M : List UInt8} {i : Nat} {a b : UInt8} (h1 : L[i]? = some a) (h2 : M[i]? = some b) (h : a ≠ b) : L ≠ M := by
  rintro rfl
  rw [h1] at h2
  exact h (Option.some.inj h2)
theorem take_eq_succ {L M : List UInt8} {i : Nat} {a : UInt8} (h : L.take i = M.take i) (h1 : L[i]? = some a) (h2 : M[i]? = some a) : L.take (i + 1) = M.take (i + 1) := by
  obtain ⟨g1, e1⟩ := List.getElem?_eq_some_iff.1 h1
  obtain ⟨g2, e2⟩ := List.getElem?_eq_some_iff.1 h2
  rw [List.take_succ_eq_append_getElem g1, List.take_succ_eq_append_getElem g2, h, e1, e2]

set_option maxRecDepth 100000 in
/-- 'same': the same bytes? -/
theorem same_q (v1 v2 : Value) (L M : List UInt8) (r : Bool) (w : World) (h1 : Rd w v1 L) (h2 : Rd w v2 M) (hr : decide (L = M) = r) :
    Calls Tryd.prog 26 #[v1, v2] w fun e w' => e = .returned (.bool r) ∧ ∃ n, w' = w.drewN n := by
  obtain ⟨A1, cap1, rfl, hc1, hn1, hl1, hr1⟩ := h1
  obtain ⟨A2, cap2, rfl, hc2, hn2, hl2, hr2⟩ := h2
  have HR1 := Hd.mk hr1
  have HR2 := Hd.mk hr2
  have HQ := Hd.mk hr
  clear hr1 hr2 hn1 hn2 hr hc1 hc2
  by_cases hl : L.length = M.length
  · have t1 : L.length ≤ M.length := by omega
    have t2 : M.length ≤ L.length := by omega
    clear hl
    go_enter Tryd.func26, Tryd.ntmps26
    go_wp2
    go_loopw [5] (fun i wr => ∃ k : Nat, i = .int .i64 k ∧ k ≤ L.length ∧ Hd (L.take k = M.take k) ∧ Hd (∃ a, wr = w.drewN a)) (fun i _ => L.length - (intOf i).toNat)
    case atStart => exact ⟨0, rfl, by omega, ⟨rfl⟩, ⟨⟨0, rfl⟩⟩⟩
    case round =>
      obtain ⟨k, rfl, hk, HE, HW⟩ := hrel
      have HB : Hd (Below w.heap.size w wr) := ⟨by obtain ⟨a, rfl⟩ := HW.out; exact bel_drewN (Below.refl _ _) a⟩
      by_cases hlt : k < L.length
      · obtain ⟨ad1, a, rfl, hcell1, H1⟩ := (HR1.out.below HB.out).at_ k hlt
        obtain ⟨ad2, b, rfl, hcell2, H2⟩ := (HR2.out.below HB.out).at_ k (by omega)
        have i1 : (k : Int) < L.length := by omega
        have i2 : (k : Int) < M.length := by omega
        by_cases hab : a = b
        · subst hab
          go_wp2_with fail
          go_quiet (fail)
          have HB2 : Hd (∃ a, wr.drewN nq = w.drewN a) := ⟨by obtain ⟨a, rfl⟩ := HW.out; exact ⟨a + nq, World.drewN_drewN ..⟩⟩
          clear hcell1 hcell2
          go_wp2
          go_roundw
          case rel => exact ⟨k + 1, by go_num, by omega, ⟨take_eq_succ HE.out H1.out H2.out⟩, HB2⟩
          case measure => simp [intOf]; omega
        · obtain rfl : r = false := by rw [← HQ.out]; exact decide_eq_false (list_ne H1.out H2.out hab)
          have hne : a.toNat ≠ b.toNat := fun h => hab (UInt8.toNat_inj.1 h)
          rcases (show a.toNat < b.toNat ∨ b.toNat < a.toNat by omega) with hne' | hne'
          all_goals
            clear hab hne
            go_wp2_with fail
            go_quiet (fail)
            have HB2 : Hd (∃ a, wr.drewN nq = w.drewN a) := ⟨by obtain ⟨a, rfl⟩ := HW.out; exact ⟨a + nq, World.drewN_drewN ..⟩⟩
            clear hcell1 hcell2
            go_wp2
            go_ret
            exact ⟨rfl, HB2.out⟩
      · obtain rfl : r = true := by
          rw [← HQ.out]
          refine decide_eq_true ?_
          have := HE.out
          rwa [List.take_of_length_le (by omega), List.take_of_length_le (by omega)] at this
        go_wp2
        go_ret
        exact ⟨rfl, HW.out⟩
  · obtain rfl : r = false := by rw [← HQ.out]; exact decide_eq_false (fun h => hl (by rw [h]))
    rcases (show L.length < M.length ∨ M.length < L.length by omega) with t1 | t1
    all_goals
      clear hl
      go_enter Tryd.func26, Tryd.ntmps26
      go_wp2
      go_ret
      exact ⟨rfl, 0, rfl⟩

theorem same_any (v1 v2 : Value) (L M : List UInt8) (r : Bool) (w : World) (h1 : Rd w v1 L) (h2 : Rd w v2 M) (hr : decide (L = M) = r) :
    Calls Tryd.prog 26 #[v1, v2] w fun e w' => e = .returned (.bool r) ∧ Below w.heap.size w w' := by
  refine (same_q v1 v2 L M r w h1 h2 hr).mono ?_
  rintro e w' ⟨rfl, n, rfl⟩
  exact ⟨rfl, bel_drewN (Below.refl _ _) n⟩

theorem listL_ne {Ls Ms : List (List UInt8)} {i : Nat} {a b : List UInt8} (h1 : Ls[i]? = some a) (h2 : Ms[i]? = some b) (h : a ≠ b) : Ls ≠ Ms := by
  rintro rfl
  rw [h1] at h2
  exact h (Option.some.inj h2)
theorem takeL_succ {Ls Ms : List (List UInt8)} {i : Nat} {a : List UInt8} (h : Ls.take i = Ms.take i) (h1 : Ls[i]? = some a) (h2 : Ms[i]? = some a) : Ls.take (i + 1) = Ms.take (i + 1) := by
  obtain ⟨g1, e1⟩ := List.getElem?_eq_some_iff.1 h1
  obtain ⟨g2, e2⟩ := List.getElem?_eq_some_iff.1 h2
  rw [List.take_succ_eq_append_getElem g1, List.take_succ_eq_append_getElem g2, h, e1, e2]

set_option maxRecDepth 100000 in
set_option maxHeartbeats 1000000 in
/-- 'sameAll': the same list of byte strings? -/
theorem sameAll_q (v1 v2 : Value) (Ls Ms : List (List UInt8)) (r : Bool) (w : World) (h1 : RdL w v1 Ls) (h2 : RdL w v2 Ms) (hr : decide (Ls = Ms) = r) :
    Calls Tryd.prog 30 #[v1, v2] w fun e w' => e = .returned (.bool r) ∧ ∃ n, w' = w.drewN n := by
  obtain ⟨A1, cap1, rfl, hl1⟩ := h1.form
  obtain ⟨A2, cap2, rfl, hl2⟩ := h2.form
  have HR1 := Hd.mk h1
  have HR2 := Hd.mk h2
  have HQ := Hd.mk hr
  clear h1 h2 hr
  by_cases hl : Ls.length = Ms.length
  · have t1 : Ls.length ≤ Ms.length := by omega
    have t2 : Ms.length ≤ Ls.length := by omega
    clear hl
    go_enter Tryd.func30, Tryd.ntmps30
    go_wp2
    go_loopw [5] (fun i wr => ∃ k : Nat, i = .int .i64 k ∧ k ≤ Ls.length ∧ Hd (Ls.take k = Ms.take k) ∧ Hd (∃ a, wr = w.drewN a)) (fun i _ => Ls.length - (intOf i).toNat)
    case atStart => exact ⟨0, rfl, by omega, ⟨rfl⟩, ⟨⟨0, rfl⟩⟩⟩
    case round =>
      obtain ⟨k, rfl, hk, HE, HW⟩ := hrel
      have HB : Hd (Below w.heap.size w wr) := ⟨by obtain ⟨a, rfl⟩ := HW.out; exact bel_drewN (Below.refl _ _) a⟩
      by_cases hlt : k < Ls.length
      · obtain ⟨ad1, A3, c3, L3, rfl, hcell1, hl3, H3, R3⟩ := (HR1.out.below HB.out).at_ k hlt
        obtain ⟨ad2, A4, c4, L4, rfl, hcell2, hl4, H4, R4⟩ := (HR2.out.below HB.out).at_ k (by omega)
        have i1 : (k : Int) < Ls.length := by omega
        have i2 : (k : Int) < Ms.length := by omega
        by_cases hab : L3 = L4
        · subst hab
          go_wp2_with fail
          go_quiet ((go_at_call 26; exact Calls.quiet_of (same_q _ _ L3 L3 true _ (R3.out.below (bel_drewN (Below.refl _ _) _)) (R4.out.below (bel_drewN (Below.refl _ _) _)) (by simp))))
          have HB2 : Hd (∃ a, wr.drewN nq = w.drewN a) := ⟨by obtain ⟨a, rfl⟩ := HW.out; exact ⟨a + nq, World.drewN_drewN ..⟩⟩
          clear hcell1 hcell2
          go_wp2
          go_roundw
          case rel => exact ⟨k + 1, by go_num, by omega, ⟨takeL_succ HE.out H3.out H4.out⟩, HB2⟩
          case measure => simp [intOf]; omega
        · obtain rfl : r = false := by rw [← HQ.out]; exact decide_eq_false (listL_ne H3.out H4.out hab)
          have HN := Hd.mk (decide_eq_false hab)
          clear hab
          go_wp2_with fail
          go_quiet ((go_at_call 26; exact Calls.quiet_of (same_q _ _ L3 L4 false _ (R3.out.below (bel_drewN (Below.refl _ _) _)) (R4.out.below (bel_drewN (Below.refl _ _) _)) HN.out)))
          have HB2 : Hd (∃ a, wr.drewN nq = w.drewN a) := ⟨by obtain ⟨a, rfl⟩ := HW.out; exact ⟨a + nq, World.drewN_drewN ..⟩⟩
          clear hcell1 hcell2
          go_wp2
          go_ret
          exact ⟨rfl, HB2.out⟩
      · obtain rfl : r = true := by
          rw [← HQ.out]
          refine decide_eq_true ?_
          have := HE.out
          rwa [List.take_of_length_le (by omega), List.take_of_length_le (by omega)] at this
        go_wp2
        go_ret
        exact ⟨rfl, HW.out⟩
  · obtain rfl : r = false := by rw [← HQ.out]; exact decide_eq_false (fun h => hl (by rw [h]))
    rcases (show Ls.length < Ms.length ∨ Ms.length < Ls.length by omega) with t1 | t1
    all_goals
      clear hl
      go_enter Tryd.func30, Tryd.ntmps30
      go_wp2
      go_ret
      exact ⟨rfl, 0, rfl⟩
theorem sameAll_any (v1 v2 : Value) (Ls Ms : List (List UInt8)) (r : Bool) (w : World) (h1 : RdL w v1 Ls) (h2 : RdL w v2 Ms) (hr : decide (Ls = Ms) = r) :
    Calls Tryd.prog 30 #[v1, v2] w fun e w' => e = .returned (.bool r) ∧ Below w.heap.size w w' := by
  refine (sameAll_q v1 v2 Ls Ms r w h1 h2 hr).mono ?_
  rintro e w' ⟨rfl, n, rfl⟩
  exact ⟨rfl, bel_drewN (Below.refl _ _) n⟩

end Go.Proofs.YtbobigaifkffoaaDoor
