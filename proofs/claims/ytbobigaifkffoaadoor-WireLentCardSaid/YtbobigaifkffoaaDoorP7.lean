/-
  PLAIN: a number read from its last byte backwards.
-/
import Derived.Test.YtbobigaifkffoaaDoorP6
namespace Go.Proofs.YtbobigaifkffoaaDoor
set_option linter.unusedVariables false
set_option linter.unusedSimpArgs false

/-- The low seven bits of each byte, the lowest first. -/
def bv : List UInt8 → Nat
  | [] => 0
  | c :: M => c.toNat % 128 + 128 * bv M
theorem ru_high : ∀ (n : Nat) (M : List UInt8) (i v : Nat), i + n ≤ 9 → (∀ j, j < n → ∃ c, M[j]? = some c ∧ 128 ≤ c.toNat) → ru i v M = ru (i + n) (v + bv (M.take n) * 128 ^ i) (M.drop n)
  | 0, M, i, v, _, _ => by simp [bv]
  | n + 1, M, i, v, hi, hh => by
    obtain ⟨c, hc, h128⟩ := hh 0 (by omega)
    match M, hc with
    | c' :: M, hc =>
      obtain rfl : c' = c := by simpa using hc
      rw [ru_more (by omega) h128, ru_high n M (i + 1) _ (by omega) (fun j hj => by
        obtain ⟨d, hd, h⟩ := hh (j + 1) (by omega)
        exact ⟨d, by simpa using hd, h⟩)]
      simp only [List.take_succ_cons, List.drop_succ_cons, bv]
      congr 1
      · omega
      · rw [Nat.pow_succ, Nat.add_mul, Nat.add_assoc, Nat.mul_comm (128 ^ i) 128, ← Nat.mul_assoc, Nat.mul_comm (bv _) 128]
theorem bv_snoc : ∀ (M : List UInt8) (c : UInt8), bv (M ++ [c]) = bv M + c.toNat % 128 * 128 ^ M.length
  | [], c => by simp [bv]
  | d :: M, c => by
    simp only [List.cons_append, bv, bv_snoc M c, List.length_cons, Nat.pow_succ]
    rw [Nat.mul_add, Nat.add_assoc, ← Nat.mul_assoc, ← Nat.mul_assoc, Nat.mul_comm 128 (c.toNat % 128), Nat.mul_assoc, Nat.mul_assoc, Nat.mul_comm 128 (128 ^ _)]
theorem take_snoc {M : List UInt8} {n : Nat} {c : UInt8} (h : M[n]? = some c) : M.take (n + 1) = M.take n ++ [c] := by
  obtain ⟨hn, rfl⟩ := List.getElem?_eq_some_iff.1 h
  exact List.take_succ_eq_append_getElem hn
theorem len_high {M : List UInt8} {n : Nat} {c : UInt8} (h : M[n]? = some c) : (M.take n).length = n := by
  have := (List.getElem?_eq_some_iff.1 h).1
  rw [List.length_take]; omega

theorem ru_last_ {M : List UInt8} {n : Nat} {c : UInt8} (hn : n ≤ 9) (hh : ∀ j, j < n → ∃ c, M[j]? = some c ∧ 128 ≤ c.toNat) (hc : M[n]? = some c) (h9 : ¬ (n = 9 ∧ 1 < c.toNat)) (h : c.toNat < 128) (h0 : ¬ (c.toNat = 0 ∧ 0 < n)) :
    ru 0 0 M = (bv (M.take (n + 1)), n + 1, 0) := by
  rw [ru_high n M 0 0 (by omega) hh, drop_at hc, ru_last (by omega) h (by omega), take_snoc hc, bv_snoc, len_high hc]
  simp only [Nat.zero_add, Nat.pow_zero, Nat.mul_one]
  rw [Nat.mod_eq_of_lt h]
theorem ru_short_ {M : List UInt8} {n : Nat} (hn : n ≤ 9) (hh : ∀ j, j < n → ∃ c, M[j]? = some c ∧ 128 ≤ c.toNat) (hl : M.length = n) : ru 0 0 M = (0, 0, 10) := by
  rw [ru_high n M 0 0 (by omega) hh, List.drop_eq_nil_of_le (by omega)]
  rfl
theorem ru_wide_ {M : List UInt8} {n : Nat} {c : UInt8} (hn : n = 9) (hh : ∀ j, j < n → ∃ c, M[j]? = some c ∧ 128 ≤ c.toNat) (hc : M[n]? = some c) (h : 1 < c.toNat) : ru 0 0 M = (0, 0, 12) := by
  rw [ru_high n M 0 0 (by omega) hh, drop_at hc, ru_wide (by omega) h]
theorem ru_min_ {M : List UInt8} {n : Nat} {c : UInt8} (hn : n ≤ 9) (hh : ∀ j, j < n → ∃ c, M[j]? = some c ∧ 128 ≤ c.toNat) (hc : M[n]? = some c) (h : c.toNat = 0) (h0 : 0 < n) : ru 0 0 M = (0, 0, 11) := by
  rw [ru_high n M 0 0 (by omega) hh, drop_at hc, ru_min h (by omega)]

theorem bv_drop {M : List UInt8} {i : Nat} {c : UInt8} (h : M[i]? = some c) : bv (M.drop i) = c.toNat % 128 + 128 * bv (M.drop (i + 1)) := by
  rw [drop_at h]; rfl
theorem bv_drop_le : ∀ (M : List UInt8) (i : Nat), bv (M.drop i) ≤ bv M
  | M, 0 => by simp
  | [], i + 1 => by simp
  | c :: M, i + 1 => by
    have := bv_drop_le M i
    simp only [List.drop_succ_cons, bv]
    omega

end Go.Proofs.YtbobigaifkffoaaDoor
