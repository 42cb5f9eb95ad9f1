/-
  THE WALKS of the document's own answer (annalsref1): ReadInt, ReadBytes.
-/
import Derived.Test.YtbobigaifkffoaaDoorL16
namespace Go.Proofs.YtbobigaifkffoaaDoor
open Go.RowKit
set_option linter.unusedVariables false
set_option linter.unusedSimpArgs false

set_option maxRecDepth 100000 in
set_option maxHeartbeats 1000000 in
/-- 'annalsref1.ReadInt'. -/
theorem dReadInt_e (v : Value) (L : List UInt8) (pos : Int) (x : Int) (p er : Nat) (w : World) (h : Rd w v L) (hp : -9223372036854775808 ≤ pos) (hX : rdI L pos = (x, p, er)) :
    Calls Tryd.prog 62 #[v, .int .i64 pos] w fun e w' => e = .returned (.tuple #[.int .i64 x, .int .i64 (p : Int), .int .i64 (er : Int)]) ∧ w = w' := by
  obtain ⟨n, q, er', hE⟩ : ∃ p q er, rdU L pos = (p, q, er) := ⟨_, _, _, rfl⟩
  have C := dReadUint_e v L pos n q er' w h hp hE
  obtain ⟨A, c, rfl⟩ := h.form
  unfold rdI at hX
  rw [hE] at hX
  by_cases hz : er' = 0
  · subst hz
    rw [if_pos rfl] at hX
    simp only [Prod.mk.injEq] at hX
    obtain ⟨hx, rfl, rfl⟩ := hX
    have h64 : n < 18446744073709551616 := by
      obtain ⟨_, _, _, _, _, _, _, _, h64, _⟩ := rdU_spec hE
      exact h64.out
    obtain ⟨m, hm⟩ : ∃ m, n / 2 = m := ⟨_, rfl⟩
    have e1 : (n : Int) / 2 = (m : Int) := by omega
    have m1 : (m : Int) ≤ 9223372036854775807 := by omega
    unfold unz at hx
    by_cases h2 : n % 2 = 0
    · rw [if_pos h2, hm] at hx
      subst hx
      have b2 : ((n : Int) % 2 == 1) = false := beq_f (by omega)
      clear h h64 hE hm h2
      go_enter Tryd.func62, Tryd.ntmps62
      go_wp2_with fail
      refine C.mono ?_
      rintro e w' ⟨rfl, rfl⟩
      clear C
      go_wp2
      go_ret3
      exact ⟨rfl, rfl⟩
    · rw [if_neg h2, hm] at hx
      subst hx
      have b2 : ((n : Int) % 2 == 1) = true := beq_t (by omega)
      clear h h64 hE hm h2
      go_enter Tryd.func62, Tryd.ntmps62
      go_wp2_with fail
      refine C.mono ?_
      rintro e w' ⟨rfl, rfl⟩
      clear C
      go_wp2
      go_ret3
      exact ⟨rfl, rfl⟩
  · have h0 : ¬ (n, q, er').2.2 = 0 := hz
    rw [if_neg h0] at hX
    simp only [Prod.mk.injEq] at hX
    obtain ⟨rfl, rfl, rfl⟩ := hX
    have b1 : ((er' : Int) == 0) = false := beq_f (by omega)
    clear h0 h hE
    go_enter Tryd.func62, Tryd.ntmps62
    go_wp2_with fail
    refine C.mono ?_
    rintro e w' ⟨rfl, rfl⟩
    clear C
    go_wp2
    go_ret3
    exact ⟨rfl, rfl⟩

set_option maxRecDepth 100000 in
set_option maxHeartbeats 600000 in
/-- 'annalsref1.ReadBytes'. -/
theorem dReadBytes_e (v : Value) (L B : List UInt8) (pos mx : Int) (p er : Nat) (w : World) (h : Rd w v L) (hp : -9223372036854775808 ≤ pos) (hm : mx ≤ 9223372036854775807) (hX : rdB L pos mx = (B, p, er)) :
    Calls Tryd.prog 58 #[v, .int .i64 pos, .int .i64 mx] w fun e w' => ∃ A c, e = .returned (.tuple #[.slice A B.length c, .int .i64 (p : Int), .int .i64 (er : Int)]) ∧ Own w.heap.size w' (.slice A B.length c) B ∧ Below w.heap.size w w' := by
  obtain ⟨n, q, er', hE⟩ : ∃ p q er, rdU L pos = (p, q, er) := ⟨_, _, _, rfl⟩
  have C := dReadUint_e v L pos n q er' w h hp hE
  obtain ⟨A, c, rfl⟩ := h.form
  have hl := h.slice.2.2.2.1
  have HR := Hd.mk h
  clear h
  by_cases h1 : pos < 0
  · rw [rdB_arg (.inl h1)] at hX
    simp only [Prod.mk.injEq] at hX
    obtain ⟨rfl, rfl, rfl⟩ := hX
    have d1 : decide (pos < 0) = true := dec_t h1
    go_enter Tryd.func58, Tryd.ntmps58
    go_wp2
    go_ret3
    exact ⟨none, 0, rfl, Own.nil _ _, Below.refl _ _⟩
  · have d1 : decide (pos < 0) = false := dec_f h1
    by_cases h2 : (L.length : Int) < pos
    · rw [rdB_arg (.inr (.inl h2))] at hX
      simp only [Prod.mk.injEq] at hX
      obtain ⟨rfl, rfl, rfl⟩ := hX
      have d2 : decide ((L.length : Int) < pos) = true := dec_t h2
      go_enter Tryd.func58, Tryd.ntmps58
      go_wp2
      go_ret3
      exact ⟨none, 0, rfl, Own.nil _ _, Below.refl _ _⟩
    · have d2 : decide ((L.length : Int) < pos) = false := dec_f h2
      by_cases h3 : mx < 0
      · rw [rdB_arg (.inr (.inr h3))] at hX
        simp only [Prod.mk.injEq] at hX
        obtain ⟨rfl, rfl, rfl⟩ := hX
        have d3 : decide (mx < 0) = true := dec_t h3
        go_enter Tryd.func58, Tryd.ntmps58
        go_wp2
        go_ret3
        exact ⟨none, 0, rfl, Own.nil _ _, Below.refl _ _⟩
      · have d3 : decide (mx < 0) = false := dec_f h3
        have hno : ¬ (pos < 0 ∨ (L.length : Int) < pos ∨ mx < 0) := by omega
        by_cases hz : er' = 0
        · subst hz
          rw [rdB_ok hno hE] at hX
          obtain ⟨a, k, rfl, ha, rfl, hk, hk10, hql, h64, _⟩ := rdU_spec hE
          have hn := h64.out
          have m1 : IntKind.u64.wrap mx = mx := by rw [IntKind.wrap_u64]; omega
          clear hE h64 hno h1 h2
          by_cases h4 : mx < (n : Int)
          · rw [if_pos h4] at hX
            simp only [Prod.mk.injEq] at hX
            obtain ⟨rfl, rfl, rfl⟩ := hX
            have d4 : decide (mx < (n : Int)) = true := dec_t h4
            clear hn
            go_enter Tryd.func58, Tryd.ntmps58
            go_wp2_with fail
            refine C.mono ?_
            rintro e w' ⟨rfl, rfl⟩
            clear C
            go_wp2
            go_ret3
            exact ⟨none, 0, rfl, Own.nil _ _, Below.refl _ _⟩
          · rw [if_neg h4] at hX
            have d4 : decide (mx < (n : Int)) = false := dec_f h4
            have m2 : IntKind.u64.wrap ((L.length : Int) - ((a : Int) + (k : Int))) = (L.length : Int) - ((a : Int) + (k : Int)) := by rw [IntKind.wrap_u64]; omega
            by_cases h5 : L.length - (a + k) < n
            · rw [if_pos h5] at hX
              simp only [Prod.mk.injEq] at hX
              obtain ⟨rfl, rfl, rfl⟩ := hX
              have d5 : decide ((L.length : Int) - ((a : Int) + (k : Int)) < (n : Int)) = true := dec_t (by omega)
              clear hn
              go_enter Tryd.func58, Tryd.ntmps58
              go_wp2_with fail
              refine C.mono ?_
              rintro e w' ⟨rfl, rfl⟩
              clear C
              go_wp2
              go_ret3
              exact ⟨none, 0, rfl, Own.nil _ _, Below.refl _ _⟩
            · rw [if_neg h5] at hX
              simp only [Prod.mk.injEq] at hX
              obtain ⟨hB, rfl, rfl⟩ := hX
              have d5 : decide ((L.length : Int) - ((a : Int) + (k : Int)) < (n : Int)) = false := dec_f (by omega)
              obtain ⟨q, hq⟩ : ∃ q, a + k = q := ⟨_, rfl⟩
              obtain ⟨r, hr⟩ : ∃ r, q + n = r := ⟨_, rfl⟩
              rw [hq, hr] at hB
              have P := Hd.mk (dPart_e _ L B q r w HR.out (by omega) (by omega) hB)
              have hri : (q : Int) + (n : Int) = (r : Int) := by omega
              have m3 : IntKind.u64.wrap ((L.length : Int) - (q : Int)) = (L.length : Int) - (q : Int) := by rw [IntKind.wrap_u64]; omega
              have d6 : decide ((L.length : Int) - (q : Int) < (n : Int)) = false := dec_f (by omega)
              have hqL : q ≤ L.length := by omega
              have hrL : r ≤ L.length := by omega
              rw [hq] at C
              rw [hq, hr]
              clear hn d5 m2 hql hq hr h5
              go_enter Tryd.func58, Tryd.ntmps58
              go_wp2_with fail
              refine C.mono ?_
              rintro e w' ⟨rfl, rfl⟩
              clear C
              go_wp2_with fail
              refine P.out.mono ?_
              rintro e w' ⟨A2, c2, rfl, ho, hb⟩
              have O := Hd.mk ho
              have B2 := Hd.mk hb
              clear ho hb P hB
              go_wp2
              go_ret3
              exact ⟨A2, c2, rfl, O.out, B2.out⟩
        · obtain ⟨m, rfl⟩ : ∃ m, er' = m + 1 := ⟨er' - 1, by omega⟩
          rw [rdB_err hno hE] at hX
          simp only [Prod.mk.injEq] at hX
          obtain ⟨rfl, rfl, rfl⟩ := hX
          have b1 : (((m + 1 : Nat) : Int) == 0) = false := beq_f (by omega)
          obtain ⟨e1, he1⟩ : ∃ e1, m + 1 = e1 := ⟨_, rfl⟩
          rw [he1] at C b1
          rw [he1]
          clear hE hno he1 h1 h2 h3
          go_enter Tryd.func58, Tryd.ntmps58
          go_wp2_with fail
          refine C.mono ?_
          rintro e w' ⟨rfl, rfl⟩
          clear C
          go_wp2
          go_ret3
          exact ⟨none, 0, rfl, Own.nil _ _, Below.refl _ _⟩

end Go.Proofs.YtbobigaifkffoaaDoor
