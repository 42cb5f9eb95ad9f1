/-
  THE WALKS of Int, ReadInt, Bytes, ReadBytes.
-/
import Derived.Test.YtbobigaifkffoaaDoorL13
import Derived.Test.YtbobigaifkffoaaDoorP6
namespace Go.Proofs.YtbobigaifkffoaaDoor
open Go.RowKit
set_option linter.unusedVariables false
set_option linter.unusedSimpArgs false

theorem uint_e (v : Nat) (F : List UInt8) (w : World) (hv : Is64 v) (hF : uenc v = F) :
    Calls Tryd.prog 33 #[.int .u64 v] w fun e w' => ∃ A c, e = .returned (.slice A F.length c) ∧ Own w.heap.size w' (.slice A F.length c) F ∧ Below w.heap.size w w' := by
  refine (uint_any v w hv).mono ?_
  rintro e w' ⟨r, rfl, ho, hb⟩
  rw [hF] at ho
  obtain ⟨A, c, rfl⟩ := ho.rd.form
  exact ⟨A, c, rfl, ho, hb⟩

/-- 'wire.Int'. -/
theorem int_e (v : Int) (F : List UInt8) (w : World) (hv : -9223372036854775808 ≤ v ∧ v ≤ 9223372036854775807) (hF : uenc (zig v) = F) :
    Calls Tryd.prog 35 #[.int .i64 v] w fun e w' => ∃ A c, e = .returned (.slice A F.length c) ∧ Own w.heap.size w' (.slice A F.length c) F ∧ Below w.heap.size w w' := by
  have hz := zig_bits hv
  have h64 := zig_64 hv
  obtain ⟨m, hm⟩ : ∃ m, zig v = m := ⟨_, rfl⟩
  rw [hm] at hz hF h64
  have C := uint_e m F w h64 hF
  clear hm h64 hF
  go_enter Tryd.func35, Tryd.ntmps35
  go_wp2_with fail
  refine C.mono ?_
  rintro e w' ⟨A, c, rfl, ho, hb⟩
  have O := Hd.mk ho
  have B := Hd.mk hb
  clear ho hb
  go_wp2
  go_ret
  exact ⟨A, c, rfl, O.out, B.out⟩

set_option maxRecDepth 100000 in
set_option maxHeartbeats 300000 in
/-- 'wire.ReadInt'. -/
theorem readInt_e (v : Value) (L : List UInt8) (pos : Int) (x : Int) (p er : Nat) (w : World) (h : Rd w v L) (hp : -9223372036854775808 ≤ pos) (hX : rdI L pos = (x, p, er)) :
    Calls Tryd.prog 36 #[v, .int .i64 pos] w fun e w' => e = .returned (.tuple #[.int .i64 x, .int .i64 (p : Int), .int .i64 (er : Int)]) ∧ w = w' := by
  obtain ⟨n, q, er', hE⟩ : ∃ p q er, rdU L pos = (p, q, er) := ⟨_, _, _, rfl⟩
  have C := readUint_any v L pos w h hp
  rw [hE] at C
  obtain ⟨A, c, rfl⟩ := h.form
  unfold rdI at hX
  rw [hE] at hX
  by_cases hz : er' = 0
  · subst hz
    rw [if_pos rfl] at hX
    simp only [Prod.mk.injEq] at hX
    obtain ⟨hx, rfl, rfl⟩ := hX
    have h64 : Is64 n := by
      obtain ⟨_, _, _, _, _, _, _, _, h64, _⟩ := rdU_spec hE
      exact h64
    have hb := unz_bits h64
    rw [hx] at hb
    clear hx h h64 hE
    go_enter Tryd.func36, Tryd.ntmps36
    go_wp2_with fail
    refine C.mono ?_
    rintro e w' ⟨rfl, rfl⟩
    clear C
    go_wp2
    go_ret3
    exact ⟨rfl, rfl⟩
  · have h0 : ¬ (n, q, er').2.2 = 0 := hz
    rw [if_neg h0] at hX
    simp only [Prod.mk.injEq] at hX
    obtain ⟨rfl, rfl, rfl⟩ := hX
    have b1 : ((er' : Int) == 0) = false := beq_f (by omega)
    clear h0 h hE
    go_enter Tryd.func36, Tryd.ntmps36
    go_wp2_with fail
    refine C.mono ?_
    rintro e w' ⟨rfl, rfl⟩
    clear C
    go_wp2
    go_ret3
    exact ⟨rfl, rfl⟩

/-- 'wire.Bytes'. -/
theorem bytes_e (v : Value) (L F : List UInt8) (w : World) (h : Rd w v L) (hl : L.length ≤ 140737488355328) (hF : lenB L = F) :
    Calls Tryd.prog 37 #[v] w fun e w' => ∃ A c, e = .returned (.slice A F.length c) ∧ Own w.heap.size w' (.slice A F.length c) F ∧ Below w.heap.size w w' := by
  obtain ⟨A, c, rfl⟩ := h.form
  have HR := Hd.mk h
  have h64 : Is64 L.length := Is64.mk (by omega)
  have C := Hd.mk (uint_e L.length (uenc L.length) w h64 rfl)
  have hl10 := uenc_len10 h64
  have hF := Hd.mk hF
  have e1 : ((L.length : Int) % 18446744073709551616) = L.length := by omega
  clear h h64
  go_enter Tryd.func37, Tryd.ntmps37
  obtain ⟨U, hU⟩ : ∃ U, uenc L.length = U := ⟨_, rfl⟩
  rw [hU] at C hl10
  have HU := Hd.mk hU
  clear hU
  have HL : Hd (U.length + L.length ≤ 140737555464192) := ⟨by omega⟩
  go_wp2_with fail
  refine C.out.mono ?_
  rintro e w1 ⟨A1, c1, rfl, ho, hb⟩
  have O1 := Hd.mk ho
  have B1 := Hd.mk hb
  have R1 := Hd.mk (HR.out.below hb)
  clear ho hb C
  go_wp2_with (at_builtin; refine wpList_app rfl (.tmp 6) (.tmp 7) rfl w.heap.size _ _ _ L rfl rfl O1.out R1.out HL.out B1.out.size ?_; intro u2 w2 hown hgr; have O2 := Hd.mk hown; have B2 := Hd.mk (bel_app0 B1.out O1.out hgr); clear hown hgr)
  go_ret
  have hO := O2.out
  rw [← HU.out] at hO
  have hO : Own w.heap.size w2 u2 (lenB L) := hO
  rw [hF.out] at hO
  obtain ⟨A2, c2, rfl⟩ := hO.rd.form
  exact ⟨A2, c2, rfl, hO, B2.out⟩

theorem rdB_arg {L : List UInt8} {pos mx : Int} (h : pos < 0 ∨ (L.length : Int) < pos ∨ mx < 0) : rdB L pos mx = ([], 0, 1) := by unfold rdB; rw [if_pos h]
theorem rdB_err {L : List UInt8} {pos mx : Int} {n p e : Nat} (h : ¬ (pos < 0 ∨ (L.length : Int) < pos ∨ mx < 0)) (hE : rdU L pos = (n, p, e + 1)) : rdB L pos mx = ([], 0, e + 1) := by
  unfold rdB; rw [if_neg h, hE, if_pos (by simp)]
theorem rdB_ok {L : List UInt8} {pos mx : Int} {n p : Nat} (h : ¬ (pos < 0 ∨ (L.length : Int) < pos ∨ mx < 0)) (hE : rdU L pos = (n, p, 0)) :
    rdB L pos mx = if mx < (n : Int) then ([], 0, 13) else if L.length - p < n then ([], 0, 10) else ((L.take (p + n)).drop p, p + n, 0) := by
  unfold rdB; rw [if_neg h, hE, if_neg (by simp)]

set_option maxRecDepth 100000 in
set_option maxHeartbeats 600000 in
/-- 'wire.ReadBytes'. -/
theorem readBytes_e (v : Value) (L B : List UInt8) (pos mx : Int) (p er : Nat) (w : World) (h : Rd w v L) (hp : -9223372036854775808 ≤ pos) (hm : mx ≤ 9223372036854775807) (hX : rdB L pos mx = (B, p, er)) :
    Calls Tryd.prog 38 #[v, .int .i64 pos, .int .i64 mx] w fun e w' => ∃ A c, e = .returned (.tuple #[.slice A B.length c, .int .i64 (p : Int), .int .i64 (er : Int)]) ∧ Own w.heap.size w' (.slice A B.length c) B ∧ Below w.heap.size w w' := by
  obtain ⟨n, q, er', hE⟩ : ∃ p q er, rdU L pos = (p, q, er) := ⟨_, _, _, rfl⟩
  have C := readUint_any v L pos w h hp
  rw [hE] at C
  obtain ⟨A, c, rfl⟩ := h.form
  have hl := h.slice.2.2.2.1
  have HR := Hd.mk h
  clear h
  by_cases h1 : pos < 0
  · rw [rdB_arg (.inl h1)] at hX
    simp only [Prod.mk.injEq] at hX
    obtain ⟨rfl, rfl, rfl⟩ := hX
    have d1 : decide (pos < 0) = true := dec_t h1
    go_enter Tryd.func38, Tryd.ntmps38
    go_wp2
    go_ret3
    exact ⟨none, 0, rfl, Own.nil _ _, Below.refl _ _⟩
  · have d1 : decide (pos < 0) = false := dec_f h1
    by_cases h2 : (L.length : Int) < pos
    · rw [rdB_arg (.inr (.inl h2))] at hX
      simp only [Prod.mk.injEq] at hX
      obtain ⟨rfl, rfl, rfl⟩ := hX
      have d2 : decide ((L.length : Int) < pos) = true := dec_t h2
      go_enter Tryd.func38, Tryd.ntmps38
      go_wp2
      go_ret3
      exact ⟨none, 0, rfl, Own.nil _ _, Below.refl _ _⟩
    · have d2 : decide ((L.length : Int) < pos) = false := dec_f h2
      by_cases h3 : mx < 0
      · rw [rdB_arg (.inr (.inr h3))] at hX
        simp only [Prod.mk.injEq] at hX
        obtain ⟨rfl, rfl, rfl⟩ := hX
        have d3 : decide (mx < 0) = true := dec_t h3
        go_enter Tryd.func38, Tryd.ntmps38
        go_wp2
        go_ret3
        exact ⟨none, 0, rfl, Own.nil _ _, Below.refl _ _⟩
      · have d3 : decide (mx < 0) = false := dec_f h3
        have hno : ¬ (pos < 0 ∨ (L.length : Int) < pos ∨ mx < 0) := by omega
        by_cases hz : er' = 0
        · subst hz
          rw [rdB_ok hno hE] at hX
          obtain ⟨a, k, rfl, ha, rfl, hk, hk10, hql, h64, _⟩ := rdU_spec hE
          have hn := h64.out
          have m1 : IntKind.u64.wrap mx = mx := by rw [IntKind.wrap_u64]; omega
          clear hE h64 hno h1 h2
          by_cases h4 : mx < (n : Int)
          · rw [if_pos h4] at hX
            simp only [Prod.mk.injEq] at hX
            obtain ⟨rfl, rfl, rfl⟩ := hX
            have d4 : decide (mx < (n : Int)) = true := dec_t h4
            clear hn
            go_enter Tryd.func38, Tryd.ntmps38
            go_wp2_with fail
            refine C.mono ?_
            rintro e w' ⟨rfl, rfl⟩
            clear C
            go_wp2
            go_ret3
            exact ⟨none, 0, rfl, Own.nil _ _, Below.refl _ _⟩
          · rw [if_neg h4] at hX
            have d4 : decide (mx < (n : Int)) = false := dec_f h4
            have m2 : IntKind.u64.wrap ((L.length : Int) - ((a : Int) + (k : Int))) = (L.length : Int) - ((a : Int) + (k : Int)) := by rw [IntKind.wrap_u64]; omega
            by_cases h5 : L.length - (a + k) < n
            · rw [if_pos h5] at hX
              simp only [Prod.mk.injEq] at hX
              obtain ⟨rfl, rfl, rfl⟩ := hX
              have d5 : decide ((L.length : Int) - ((a : Int) + (k : Int)) < (n : Int)) = true := dec_t (by omega)
              clear hn
              go_enter Tryd.func38, Tryd.ntmps38
              go_wp2_with fail
              refine C.mono ?_
              rintro e w' ⟨rfl, rfl⟩
              clear C
              go_wp2
              go_ret3
              exact ⟨none, 0, rfl, Own.nil _ _, Below.refl _ _⟩
            · rw [if_neg h5] at hX
              simp only [Prod.mk.injEq] at hX
              obtain ⟨hB, rfl, rfl⟩ := hX
              have d5 : decide ((L.length : Int) - ((a : Int) + (k : Int)) < (n : Int)) = false := dec_f (by omega)
              obtain ⟨q, hq⟩ : ∃ q, a + k = q := ⟨_, rfl⟩
              obtain ⟨r, hr⟩ : ∃ r, q + n = r := ⟨_, rfl⟩
              rw [hq, hr] at hB
              have P := Hd.mk (piece_any _ L q r w HR.out (by omega) (by omega))
              have hri : (q : Int) + (n : Int) = (r : Int) := by omega
              have m3 : IntKind.u64.wrap ((L.length : Int) - (q : Int)) = (L.length : Int) - (q : Int) := by rw [IntKind.wrap_u64]; omega
              have d6 : decide ((L.length : Int) - (q : Int) < (n : Int)) = false := dec_f (by omega)
              have hqL : q ≤ L.length := by omega
              have hrL : r ≤ L.length := by omega
              rw [hq] at C
              rw [hq, hr]
              clear hn d5 m2 hql hq hr h5
              go_enter Tryd.func38, Tryd.ntmps38
              go_wp2_with fail
              refine C.mono ?_
              rintro e w' ⟨rfl, rfl⟩
              clear C
              go_wp2_with fail
              refine P.out.mono ?_
              rintro e w' ⟨v', rfl, ho, hb⟩
              have hB' : cutL L q r = B := hB
              rw [hB'] at ho
              obtain ⟨A2, c2, rfl⟩ := ho.rd.form
              have O := Hd.mk ho
              have B2 := Hd.mk hb
              clear ho hb P hB hB'
              go_wp2
              go_ret3
              exact ⟨A2, c2, rfl, O.out, B2.out⟩
        · obtain ⟨m, rfl⟩ : ∃ m, er' = m + 1 := ⟨er' - 1, by omega⟩
          rw [rdB_err hno hE] at hX
          simp only [Prod.mk.injEq] at hX
          obtain ⟨rfl, rfl, rfl⟩ := hX
          have b1 : (((m + 1 : Nat) : Int) == 0) = false := beq_f (by omega)
          obtain ⟨e1, he1⟩ : ∃ e1, m + 1 = e1 := ⟨_, rfl⟩
          rw [he1] at C b1
          rw [he1]
          clear hE hno he1 h1 h2 h3
          go_enter Tryd.func38, Tryd.ntmps38
          go_wp2_with fail
          refine C.mono ?_
          rintro e w' ⟨rfl, rfl⟩
          clear C
          go_wp2
          go_ret3
          exact ⟨none, 0, rfl, Own.nil _ _, Below.refl _ _⟩

end Go.Proofs.YtbobigaifkffoaaDoor
