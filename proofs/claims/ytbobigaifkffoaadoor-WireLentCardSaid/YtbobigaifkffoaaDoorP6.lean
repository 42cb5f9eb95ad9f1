/-
  PLAIN: signed numbers (zigzag), byte strings, and that what is read is what is written of the answer.
-/
import Derived.Test.YtbobigaifkffoaaDoorP5
import Derived.WalkKit
import Derived.RowKit
namespace Go.Proofs.YtbobigaifkffoaaDoor
open Go.RowKit
set_option linter.unusedVariables false
set_option linter.unusedSimpArgs false

def zig (v : Int) : Nat := if 0 ≤ v then (2 * v).toNat else (-2 * v - 1).toNat
def unz (n : Nat) : Int := if n % 2 = 0 then (n / 2 : Nat) else -((n / 2 : Nat) : Int) - 1
theorem zig_64 {v : Int} (h : -9223372036854775808 ≤ v ∧ v ≤ 9223372036854775807) : Is64 (zig v) := by
  refine Is64.mk ?_
  unfold zig
  split <;> omega
theorem unz_zig (v : Int) : unz (zig v) = v := by
  unfold zig unz
  split <;> split <;> omega
theorem zig_unz (n : Nat) : zig (unz n) = n := by
  unfold zig unz
  split <;> split <;> omega
theorem unz_64 {n : Nat} (h : Is64 n) : -9223372036854775808 ≤ unz n ∧ unz n ≤ 9223372036854775807 := by
  have := h.out
  unfold unz
  split <;> omega

theorem zig_bits {v : Int} (h : -9223372036854775808 ≤ v ∧ v ≤ 9223372036854775807) :
    bits .xor .u64 (IntKind.u64.wrap (IntKind.u64.wrap v * 2)) (IntKind.u64.wrap (v / 9223372036854775808)) = ((zig v : Nat) : Int) := by
  by_cases h0 : 0 ≤ v
  · have e1 : IntKind.u64.wrap (IntKind.u64.wrap v * 2) = ((zig v : Nat) : Int) := by
      unfold zig
      rw [if_pos h0, IntKind.wrap_u64, IntKind.wrap_u64]
      omega
    have e2 : IntKind.u64.wrap (v / 9223372036854775808) = 0 := by
      rw [IntKind.wrap_u64]; omega
    rw [e1, e2]
    have hz := (zig_64 h).out
    show IntKind.u64.wrap (((BitVec.ofInt 64 ((zig v : Nat) : Int) ^^^ BitVec.ofInt 64 0 : BitVec 64).toNat : Nat) : Int) = _
    rw [BitVec.ofInt_natCast, show BitVec.ofInt 64 0 = 0#64 from rfl, BitVec.xor_zero, BitVec.toNat_ofNat, IntKind.wrap_u64]
    omega
  · obtain ⟨m, hm⟩ : ∃ m : Nat, IntKind.u64.wrap (IntKind.u64.wrap v * 2) = (m : Int) := ⟨(IntKind.u64.wrap (IntKind.u64.wrap v * 2)).toNat, by rw [IntKind.wrap_u64]; omega⟩
    have hm2 : (m : Int) = 2 * v + 18446744073709551616 := by
      rw [← hm, IntKind.wrap_u64, IntKind.wrap_u64]; omega
    have e2 : IntKind.u64.wrap (v / 9223372036854775808) = 18446744073709551615 := by
      rw [IntKind.wrap_u64]; omega
    rw [hm, e2]
    show IntKind.u64.wrap (((BitVec.ofInt 64 (m : Int) ^^^ BitVec.ofInt 64 18446744073709551615 : BitVec 64).toNat : Nat) : Int) = _
    rw [BitVec.ofInt_natCast, show BitVec.ofInt 64 18446744073709551615 = BitVec.allOnes 64 by decide, BitVec.xor_allOnes, BitVec.toNat_not, BitVec.toNat_ofNat, IntKind.wrap_u64]
    unfold zig
    rw [if_neg h0]
    omega

theorem and1 (n : Nat) (h : Is64 n) : bits .and .u64 (n : Int) 1 = ((n % 2 : Nat) : Int) := by
  have := h.out
  show IntKind.u64.wrap (((BitVec.ofInt 64 (n : Int) &&& BitVec.ofInt 64 1 : BitVec 64).toNat : Nat) : Int) = _
  rw [BitVec.ofInt_natCast, show BitVec.ofInt 64 1 = 1#64 from rfl, BitVec.toNat_and, show (1#64).toNat = 2 ^ 1 - 1 from rfl, Nat.and_two_pow_sub_one_eq_mod, BitVec.toNat_ofNat, IntKind.wrap_u64]
  omega
theorem unz_bits {n : Nat} (h : Is64 n) : bits .xor .i64 (wrap64 ((n : Int) / 2)) (wrap64 (-wrap64 (bits .and .u64 (n : Int) 1))) = unz n := by
  have hn := h.out
  rw [and1 n h]
  have e1 : wrap64 ((n : Int) / 2) = ((n / 2 : Nat) : Int) := by unfold wrap64; omega
  rw [e1]
  by_cases h0 : n % 2 = 0
  · have e2 : wrap64 (-wrap64 ((n % 2 : Nat) : Int)) = 0 := by rw [h0]; unfold wrap64; omega
    rw [e2]
    show IntKind.i64.wrap (((BitVec.ofInt 64 ((n / 2 : Nat) : Int) ^^^ BitVec.ofInt 64 0 : BitVec 64).toNat : Nat) : Int) = _
    rw [BitVec.ofInt_natCast, show BitVec.ofInt 64 0 = 0#64 from rfl, BitVec.xor_zero, BitVec.toNat_ofNat, IntKind.wrap_i64]
    unfold unz
    rw [if_pos h0]
    omega
  · have e2 : wrap64 (-wrap64 ((n % 2 : Nat) : Int)) = -1 := by rw [show n % 2 = 1 by omega]; unfold wrap64; omega
    rw [e2]
    show IntKind.i64.wrap (((BitVec.ofInt 64 ((n / 2 : Nat) : Int) ^^^ BitVec.ofInt 64 (-1) : BitVec 64).toNat : Nat) : Int) = _
    rw [BitVec.ofInt_natCast, show BitVec.ofInt 64 (-1) = BitVec.allOnes 64 by decide, BitVec.xor_allOnes, BitVec.toNat_not, BitVec.toNat_ofNat, IntKind.wrap_i64]
    unfold unz
    rw [if_neg h0]
    omega

/-- ReadInt. -/
def rdI (L : List UInt8) (pos : Int) : Int × Nat × Nat :=
  if (rdU L pos).2.2 = 0 then (unz (rdU L pos).1, (rdU L pos).2.1, 0) else (0, 0, (rdU L pos).2.2)
/-- ReadBytes. -/
def rdB (L : List UInt8) (pos mx : Int) : List UInt8 × Nat × Nat :=
  if pos < 0 ∨ (L.length : Int) < pos ∨ mx < 0 then ([], 0, 1)
  else if (rdU L pos).2.2 ≠ 0 then ([], 0, (rdU L pos).2.2)
  else if mx < (rdU L pos).1 then ([], 0, 13)
  else if L.length - (rdU L pos).2.1 < (rdU L pos).1 then ([], 0, 10)
  else ((L.take ((rdU L pos).2.1 + (rdU L pos).1)).drop (rdU L pos).2.1, (rdU L pos).2.1 + (rdU L pos).1, 0)

theorem ru_way : ∀ (M : List UInt8) (i v v' n : Nat), i ≤ 9 → ru i v M = (v', n, 0) → ∃ x, v' = v + x * 128 ^ i ∧ (i = 0 ∨ 0 < x) ∧ M.take (n - i) = uenc x ∧ i < n
  | [], i, v, v', n, _, h => by simp [ru] at h
  | c :: M, i, v, v', n, hi, h => by
    have hc := c.toNat_lt
    by_cases h1 : i = 9 ∧ 1 < c.toNat
    · obtain ⟨rfl, h1⟩ := h1
      rw [ru_wide rfl h1] at h
      simp at h
    · by_cases h2 : 128 ≤ c.toNat
      · rw [ru_more h1 h2] at h
        obtain ⟨x, hx, hx0, ht, hlt⟩ := ru_way M (i + 1) _ v' n (by omega) h
        refine ⟨c.toNat % 128 + 128 * x, ?_, .inr (by omega), ?_, by omega⟩
        · rw [hx, Nat.pow_succ, Nat.add_mul, Nat.add_assoc, Nat.mul_comm (128 ^ i) 128, ← Nat.mul_assoc, Nat.mul_comm x 128]
        · rw [uenc_hi (by omega), show (c.toNat % 128 + 128 * x) / 128 = x by omega, ← ht, show n - i = (n - (i + 1)) + 1 by omega, List.take_succ_cons]
          congr 1
          apply UInt8.toNat_inj.1
          simp
          omega
      · by_cases h3 : c.toNat = 0 ∧ 0 < i
        · rw [ru_min h3.1 h3.2] at h
          simp at h
        · rw [ru_last h1 (by omega) h3] at h
          simp only [Prod.mk.injEq] at h
          obtain ⟨rfl, rfl, _⟩ := h
          refine ⟨c.toNat, rfl, by omega, ?_, by omega⟩
          rw [uenc_lo (by omega), show i + 1 - i = 1 by omega]
          simp

theorem take_drop_add (L : List UInt8) (a k : Nat) : (L.take (a + k)).drop a = (L.drop a).take k := by
  rw [List.drop_take]
  congr 1
  omega
theorem cut_cat (L : List UInt8) (a p q : Nat) (h1 : a ≤ p) (h2 : p ≤ q) : (L.take q).drop a = (L.take p).drop a ++ (L.take q).drop p := by
  obtain ⟨k, rfl⟩ : ∃ k, p = a + k := ⟨p - a, by omega⟩
  obtain ⟨m, rfl⟩ : ∃ m, q = a + k + m := ⟨q - (a + k), by omega⟩
  rw [take_drop_add, take_drop_add, show a + k + m = a + (k + m) by omega, take_drop_add, List.take_add, List.drop_drop]

theorem rdU_way {L : List UInt8} {a v p : Nat} (h : rdU L a = (v, p, 0)) : (L.take p).drop a = uenc v ∧ p ≤ L.length ∧ a ≤ p ∧ Is64 v := by
  obtain ⟨a', k, ha, hal, rfl, hk, _, hpl, h64, hr⟩ := rdU_spec h
  obtain rfl : a = a' := by omega
  obtain ⟨x, hx, _, ht, _⟩ := ru_way _ 0 0 v k (by omega) hr
  obtain rfl : v = x := by simpa using hx
  refine ⟨?_, hpl, by omega, h64⟩
  rw [take_drop_add, ← ht, Nat.sub_zero]

theorem rd4_way (L : List UInt8) (q : Nat) (d : BitVec 32) (hl : q + 4 ≤ L.length) (h : rd4 L q = d.toNat) : (L.take (q + 4)).drop q = le4 d := by
  have g : ∀ i, i < 4 → ∃ b, L[q + i]? = some b := fun i hi => ⟨_, List.getElem?_eq_getElem (by omega)⟩
  obtain ⟨b0, e0⟩ := g 0 (by omega)
  obtain ⟨b1, e1⟩ := g 1 (by omega)
  obtain ⟨b2, e2⟩ := g 2 (by omega)
  obtain ⟨b3, e3⟩ := g 3 (by omega)
  rw [Nat.add_zero] at e0
  rw [take_drop_add, drop_at e0, drop_at e1, drop_at e2, drop_at e3]
  unfold rd4 at h
  rw [List.getD_eq_getElem?_getD, List.getD_eq_getElem?_getD, List.getD_eq_getElem?_getD, List.getD_eq_getElem?_getD, e0, e1, e2, e3] at h
  simp only [Option.getD_some] at h
  have c0 := b0.toNat_lt
  have c1 := b1.toNat_lt
  have c2 := b2.toNat_lt
  have c3 := b3.toNat_lt
  have t0 : d.toNat % 256 = b0.toNat := by omega
  have t1 : d.toNat / 256 % 256 = b1.toNat := by omega
  have t2 : d.toNat / 65536 % 256 = b2.toNat := by omega
  have t3 : d.toNat / 16777216 % 256 = b3.toNat := by omega
  unfold le4
  rw [t0, t1, t2, t3]
  simp

theorem rdF_way {L : List UInt8} {a p : Nat} {b : List UInt8} (h : rdF L a = (b, p, 0)) : (L.take p).drop a = frm b ∧ p ≤ L.length ∧ b.length ≠ 0 ∧ b.length ≤ 1048576 := by
  obtain ⟨x, y, er, hE⟩ : ∃ x y er, bnd L a = (x, y, er) := ⟨_, _, _, rfl⟩
  by_cases h0 : er = 0
  · subst h0
    rw [rdF_ok hE] at h
    obtain ⟨a', k, n, ha, rfl, rfl, hk, hk10, hn1, hn2, hql, hru, h165⟩ := bnd_spec hE
    obtain rfl : a = a' := by omega
    split at h
    · rename_i hs
      simp only [Prod.mk.injEq] at h
      obtain ⟨rfl, rfl, _⟩ := h
      have hbl : (List.drop (a + k) (List.take (a + k + n) L)).length = n := by rw [List.length_drop, List.length_take]; omega
      refine ⟨?_, hql, by omega, by omega⟩
      rw [show ((a : Int)).toNat = a by omega] at hs
      have hu : (L.take (a + k)).drop a = uenc n := by
        obtain ⟨x, hx, _, ht, _⟩ := ru_way _ 0 0 n k (by omega) hru
        obtain rfl : n = x := by simpa using hx
        rw [take_drop_add, ← ht, Nat.sub_zero]
      have hlb : (L.take (a + k + n)).drop a = lenB ((L.take (a + k + n)).drop (a + k)) := by
        unfold lenB
        rw [hbl, ← hu, ← cut_cat L a (a + k) (a + k + n) (by omega) (by omega)]
      have h4 := rd4_way L (a + k + n) _ (by omega) hs
      have h1 : (L.take (a + k + n + 4 + 1)).drop (a + k + n + 4) = [165] := by
        rw [take_drop_add, drop_at h165]
        rfl
      unfold frm
      rw [← hlb, ← h4, ← h1, ← cut_cat L (a + k + n) (a + k + n + 4) _ (by omega) (by omega), ← cut_cat L a (a + k + n) _ (by omega) (by omega)]
    · simp at h
  · obtain ⟨m, rfl⟩ : ∃ m, er = m + 1 := ⟨er - 1, by omega⟩
    rw [rdF_err hE] at h
    simp at h

theorem rdI_back (A N : List UInt8) (v : Int) (hv : -9223372036854775808 ≤ v ∧ v ≤ 9223372036854775807) : rdI (A ++ uenc (zig v) ++ N) A.length = (v, A.length + (uenc (zig v)).length, 0) := by
  unfold rdI
  rw [rdU_back A N (zig v) (zig_64 hv)]
  simp [unz_zig]
theorem rdI_way {L : List UInt8} {a : Nat} {v : Int} {p : Nat} (h : rdI L a = (v, p, 0)) : (L.take p).drop a = uenc (zig v) ∧ p ≤ L.length := by
  obtain ⟨n, q, er, hE⟩ : ∃ x y er, rdU L a = (x, y, er) := ⟨_, _, _, rfl⟩
  unfold rdI at h
  rw [hE] at h
  split at h
  · rename_i h0
    have h0 : er = 0 := h0
    subst h0
    simp only [Prod.mk.injEq] at h
    obtain ⟨rfl, rfl, _⟩ := h
    have := rdU_way hE
    rw [zig_unz]
    exact ⟨this.1, this.2.1⟩
  · rename_i h0
    have h0 : ¬ er = 0 := h0
    simp at h
    omega
theorem rdB_back (A N M : List UInt8) (hM : M.length ≤ 140737555464192) : rdB (A ++ lenB M ++ N) A.length M.length = (M, A.length + (lenB M).length, 0) := by
  have h := rdU_back A (M ++ N) M.length (Is64.mk (by omega))
  have e : A ++ uenc M.length ++ (M ++ N) = A ++ lenB M ++ N := by simp [lenB]
  rw [e] at h
  unfold rdB
  rw [h, if_neg (by simp; omega), if_neg (by simp), if_neg (by simp), if_neg (by simp [lenB]; omega)]
  simp only [Prod.mk.injEq, and_true]
  constructor
  · rw [take_drop_add, ← e, ← List.length_append, List.drop_left, List.take_left]
  · simp [lenB]; omega
theorem rdB_way {L : List UInt8} {a : Nat} {mx : Int} {s : List UInt8} {p : Nat} (h : rdB L a mx = (s, p, 0)) : (L.take p).drop a = lenB s ∧ p ≤ L.length ∧ (s.length : Int) ≤ mx := by
  obtain ⟨n, q, er, hE⟩ : ∃ x y er, rdU L a = (x, y, er) := ⟨_, _, _, rfl⟩
  unfold rdB at h
  rw [hE] at h
  split at h
  · simp at h
  · split at h
    · rename_i h0
      have h0 : er ≠ 0 := h0
      simp at h
      omega
    · rename_i h0
      have h0 : er = 0 := by simpa using h0
      subst h0
      split at h
      · simp at h
      · split at h
        · simp at h
        · rename_i hm hl
          simp only [Prod.mk.injEq] at h
          obtain ⟨rfl, rfl, _⟩ := h
          obtain ⟨hw, hql, haq, h64⟩ := rdU_way hE
          simp only at hm hl
          have hsl : (List.drop q (List.take (q + n) L)).length = n := by rw [List.length_drop, List.length_take]; omega
          refine ⟨?_, by omega, by omega⟩
          unfold lenB
          rw [hsl, ← hw, ← cut_cat L a q (q + n) haq (by omega)]

end Go.Proofs.YtbobigaifkffoaaDoor
