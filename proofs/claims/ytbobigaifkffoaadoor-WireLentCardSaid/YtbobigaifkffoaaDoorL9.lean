import Derived.Test.YtbobigaifkffoaaDoorL2
import Derived.Test.YtbobigaifkffoaaDoorL5
import Derived.Test.YtbobigaifkffoaaDoorL8
namespace Go.Proofs.YtbobigaifkffoaaDoor
open Go.RowKit
set_option linter.unusedVariables false
set_option linter.unusedSimpArgs false

/-- A byte slice of the call's own, a place and an error. -/
def OutF (x : List UInt8 × Nat × Nat) (w : World) (e : Ending) (w' : World) : Prop :=
  ∃ r, e = .returned (.tuple #[r, .int .i64 x.2.1, .int .i64 x.2.2]) ∧ Own w.heap.size w' r x.1 ∧ Below w.heap.size w w'

theorem bits_or_add (x y k : Nat) (hx : x < 2 ^ k) (ht : x + y * 2 ^ k < 4294967296) : bits .or .u32 (x : Int) ((y * 2 ^ k : Nat) : Int) = ((x + y * 2 ^ k : Nat) : Int) := by
  show IntKind.u32.wrap (((BitVec.ofInt 32 (x : Int) ||| BitVec.ofInt 32 ((y * 2 ^ k : Nat) : Int) : BitVec 32).toNat : Nat) : Int) = _
  rw [BitVec.ofInt_natCast, BitVec.ofInt_natCast, BitVec.toNat_or, BitVec.toNat_ofNat, BitVec.toNat_ofNat, Nat.mod_eq_of_lt (by omega), Nat.mod_eq_of_lt (by omega)]
  have := Nat.two_pow_add_eq_or_of_lt hx y
  rw [Nat.or_comm, Nat.mul_comm y, ← this, IntKind.wrap_u32]
  rw [Nat.mul_comm] at ht
  omega
theorem bits_rd4 (b0 b1 b2 b3 : UInt8) (t : Nat) (ht : b0.toNat + 256 * b1.toNat + 65536 * b2.toNat + 16777216 * b3.toNat = t) :
    bits .or .u32 (bits .or .u32 (bits .or .u32 (b0.toNat : Int) ((b1.toNat : Int) * 256)) ((b2.toNat : Int) * 65536)) ((b3.toNat : Int) * 16777216) = (t : Int) := by
  have l0 := b0.toNat_lt
  have l1 := b1.toNat_lt
  have l2 := b2.toNat_lt
  have l3 := b3.toNat_lt
  have e1 := bits_or_add b0.toNat b1.toNat 8 l0 (by omega)
  have e2 := bits_or_add (b0.toNat + b1.toNat * 2 ^ 8) b2.toNat 16 (by omega) (by omega)
  have e3 := bits_or_add (b0.toNat + b1.toNat * 2 ^ 8 + b2.toNat * 2 ^ 16) b3.toNat 24 (by omega) (by omega)
  rw [show (b1.toNat : Int) * 256 = ((b1.toNat * 2 ^ 8 : Nat) : Int) by omega, e1, show (b2.toNat : Int) * 65536 = ((b2.toNat * 2 ^ 16 : Nat) : Int) by omega, e2,
    show (b3.toNat : Int) * 16777216 = ((b3.toNat * 2 ^ 24 : Nat) : Int) by omega, e3]
  omega
theorem get_of {L : List UInt8} {i : Nat} {b : UInt8} (h : L[i]? = some b) : L.getD i 0 = b := by rw [List.getD_eq_getElem?_getD, h]; rfl

set_option maxRecDepth 100000 in
set_option maxHeartbeats 2000000 in
/-- 'wire.ReadFrame'. -/
theorem readFrame_any (v : Value) (L : List UInt8) (pos : Int) (w : World) (h : Rd w v L) (hT : TabOk w) (hp : -9223372036854775808 ≤ pos) :
    Calls Tryd.prog 25 #[v, .int .i64 pos] w (OutF (rdF L pos) w) := by
  obtain ⟨p, q, er, hE⟩ : ∃ p q er, bnd L pos = (p, q, er) := ⟨_, _, _, rfl⟩
  have C := bounds_any v L pos w h hp
  rw [hE] at C
  have HC := Hd.mk C
  have HT := Hd.mk hT
  obtain ⟨A, cap, rfl, hc, hn, hl, hr⟩ := id h
  have HR := Hd.mk h
  clear hr hn C hp h hT
  obtain ⟨X, hX⟩ : ∃ X, rdF L pos = X := ⟨_, rfl⟩
  rw [hX]
  by_cases h0 : er = 0
  · subst h0
    rw [rdF_ok hE] at hX
    obtain ⟨a, k, n, rfl, rfl, rfl, hk, hk10, hn1, hn2, hql, hru, h165⟩ := bnd_spec hE
    clear hru h165 hE
    obtain ⟨p, hp⟩ : ∃ p, a + k = p := ⟨_, rfl⟩
    rw [hp] at HC hql hX
    obtain ⟨q, hq⟩ : ∃ q, p + n = q := ⟨_, rfl⟩
    rw [hq] at HC hql hX
    have hap : a ≤ p := by omega
    have hpq : p ≤ q := by omega
    clear hp hq hk hk10 hn1 hn2
    rw [show ((a : Int)).toNat = a by omega] at hX
    have HX := Hd.mk hX
    clear hX
    obtain ⟨ad, b0, rfl, hc0, H0⟩ := HR.out.slice.2.2.2.2.at_ q (by omega)
    obtain ⟨ad1, b1, e1, hc1', H1⟩ := HR.out.slice.2.2.2.2.at_ (q + 1) (by omega)
    obtain ⟨ad2, b2, e2, hc2', H2⟩ := HR.out.slice.2.2.2.2.at_ (q + 2) (by omega)
    obtain ⟨ad3, b3, e3, hc3', H3⟩ := HR.out.slice.2.2.2.2.at_ (q + 3) (by omega)
    injection e1 with e1; subst e1
    injection e2 with e2; subst e2
    injection e3 with e3; subst e3
    have hc1 := cell_succ hc1'
    have hc2 := cell_succ (m := q + 1) hc2'
    have hc3 := cell_succ (m := q + 2) hc3'
    have l0 := b0.toNat_lt
    have l1 := b1.toNat_lt
    have l2 := b2.toNat_lt
    have l3 := b3.toNat_lt
    have i0 : (q : Int) < L.length := by omega
    have i1 : (q : Int) + 1 < L.length := by omega
    have i2 : (q : Int) + 2 < L.length := by omega
    have i3 : (q : Int) + 3 < L.length := by omega
    obtain ⟨t, ht⟩ : ∃ t, b0.toNat + 256 * b1.toNat + 65536 * b2.toNat + 16777216 * b3.toNat = t := ⟨_, rfl⟩
    have et := bits_rd4 b0 b1 b2 b3 t ht
    have hrd : rd4 L q = t := by unfold rd4; rw [get_of H0.out, get_of H1.out, get_of H2.out, get_of H3.out, ht]
    rw [hrd] at HX
    obtain ⟨Z, hZ⟩ : ∃ Z, (L.take q).drop a = Z := ⟨_, rfl⟩
    obtain ⟨d, hd⟩ : ∃ d, crc Z = d := ⟨_, rfl⟩
    rw [hZ, hd] at HX
    have HD := Hd.mk hd
    have hzl : Z.length = q - a := by rw [← hZ]; simp; omega
    obtain ⟨i0', hi0', _, hz1', _⟩ := info_parts info5
    have hcut := cut_mid (P := Tryd.prog) 22 5 .i64 .i64 Tryd.underlying22 hi0' 1 hz1' (some ad) L.length cap a q (by omega) (by omega) (by omega) hc
    rw [show ((a : Int)).toNat = a by omega, show ((q : Int)).toNat = q by omega] at hcut
    obtain ⟨adc, hAD⟩ : ∃ x, (if cap = a then some ad else (some ad).map (·.add (a * 1))) = x := ⟨_, rfl⟩
    have hrc := HR.out.cut a q (by omega) (by omega)
    rw [hAD] at hcut hrc
    rw [show cutL L a q = Z from hZ] at hrc
    rw [← hzl] at hcut hrc
    have HZ := Hd.mk hrc
    have d32 := d.isLt
    clear hi0' hz1' hAD hrc ht hrd hZ hd hzl hc1' hc2' hc3'
    go_enter Tryd.func25, Tryd.ntmps25
    go_wp2_with fail
    refine HC.out.mono ?_; rintro e w' ⟨rfl, rfl⟩
    clear HC
    go_wp2_with fail
    go_quiet (fail)
    clear et hc0 hc1 hc2 hc3 l0 l1 l2 l3 i1 i2 i3
    obtain ⟨w1, hw1⟩ : ∃ w1, w.drewN nq = w1 := ⟨_, rfl⟩
    have hb1 : Below w.heap.size w w1 := by rw [← hw1]; exact ⟨rfl, rfl, rfl, Nat.le_refl _, fun _ _ => rfl⟩
    rw [hw1]
    have B1 := Hd.mk hb1
    clear hw1 hb1
    go_wp2_with fail
    refine (sum_e _ [Z] d _ (RdL.at1 rfl (HZ.out.below B1.out)) ((HT.out.below B1.out).alloc _) (by simpa using HD.out)).mono ?_
    rintro e w2 ⟨rfl, hb⟩
    have B2 := Hd.mk (bel_call B1.out _ hb)
    clear hb hcut
    by_cases htd : t = d.toNat
    · have HX' := HX.out
      rw [if_pos htd] at HX'
      subst HX'
      obtain ⟨Y, hY⟩ : ∃ Y, (L.take q).drop p = Y := ⟨_, rfl⟩
      have t1 : t ≤ d.toNat := by omega
      have t2 : d.toNat ≤ t := by omega
      have C := piece_any _ L p q w2 (HR.out.below B2.out) hpq (by omega)
      rw [show cutL L p q = Y from hY] at C
      have HY := Hd.mk hY
      have HC := Hd.mk C
      clear C hY htd HX
      go_wp2_with fail
      refine HC.out.mono ?_
      rintro e w3 ⟨y, rfl, hy, hb⟩
      obtain ⟨Ay, cy, rfl⟩ := hy.rd.form
      have O3 := Hd.mk (hy.mono B2.out.size)
      have B3 := Hd.mk (bel_call0 B2.out hb)
      clear hy hb HC
      go_wp2
      go_ret3
      refine ⟨_, rfl, ?_, B3.out⟩
      show Own _ _ _ ((L.take q).drop p)
      rw [HY.out]
      exact O3.out
    · have HX' := HX.out
      rw [if_neg htd] at HX'
      subst HX'
      rcases (show t < d.toNat ∨ d.toNat < t by omega) with t1 | t1
      all_goals
        clear htd
        go_wp2
        go_ret3
        exact ⟨_, rfl, Own.nil _ _, B2.out⟩
  · obtain ⟨m, rfl⟩ : ∃ m, er = m + 1 := ⟨er - 1, by omega⟩
    rw [rdF_err hE] at hX
    subst hX
    clear hE h0
    go_enter Tryd.func25, Tryd.ntmps25
    go_wp2_with fail
    refine HC.out.mono ?_; rintro e w' ⟨rfl, rfl⟩
    go_wp2
    go_ret3
    exact ⟨_, rfl, Own.nil _ _, Below.refl _ _⟩

end Go.Proofs.YtbobigaifkffoaaDoor
