/-
  PLAIN: numbers as bytes, seven bits a byte, and back.
-/
import Derived.Test.YtbobigaifkffoaaDoorP1
namespace Go.Proofs.YtbobigaifkffoaaDoor
set_option linter.unusedVariables false
set_option linter.unusedSimpArgs false

/-- A number of 64 bits. (Behind a name: the walk does not bear so great a numeral.) -/
def Is64 (v : Nat) : Prop := v < 18446744073709551616
theorem Is64.out {v : Nat} (h : Is64 v) : v < 18446744073709551616 := h
theorem Is64.mk {v : Nat} (h : v < 18446744073709551616) : Is64 v := h

/-- How a number is written. -/
def uenc (v : Nat) : List UInt8 := if h : v < 128 then [UInt8.ofNat v] else UInt8.ofNat (v % 128 + 128) :: uenc (v / 128)
  termination_by v
  decreasing_by omega

theorem uenc_lo {v : Nat} (h : v < 128) : uenc v = [UInt8.ofNat v] := by rw [uenc, dif_pos h]
theorem uenc_hi {v : Nat} (h : ¬ v < 128) : uenc v = UInt8.ofNat (v % 128 + 128) :: uenc (v / 128) := by rw [uenc, dif_neg h]
theorem uenc_len (k : Nat) : ∀ v : Nat, v < 128 ^ (k + 1) → (uenc v).length ≤ k + 1 := by
  induction k with
  | zero => intro v h; rw [uenc_lo (by omega)]; simp
  | succ k ih =>
    intro v h
    by_cases hv : v < 128
    · rw [uenc_lo hv]; simp
    · rw [uenc_hi hv]
      have := ih (v / 128) (by rw [Nat.pow_succ] at h; omega)
      simp only [List.length_cons]
      omega
theorem uenc_len10 {v : Nat} (h : Is64 v) : (uenc v).length ≤ 10 := uenc_len 9 v (by have := h.out; omega)
theorem uenc_pos (v : Nat) : 0 < (uenc v).length := by
  by_cases h : v < 128
  · rw [uenc_lo h]; simp
  · rw [uenc_hi h]; simp

/-- The bytes from a place on, read as a number: i of its bytes are read, they make v. (number, how many bytes, error) -/
def ru : Nat → Nat → List UInt8 → Nat × Nat × Nat
  | _, _, [] => (0, 0, 10)
  | i, v, c :: M => if i = 9 ∧ 1 < c.toNat then (0, 0, 12) else if 128 ≤ c.toNat then ru (i + 1) (v + c.toNat % 128 * 128 ^ i) M
    else if c.toNat = 0 ∧ 0 < i then (0, 0, 11) else (v + c.toNat * 128 ^ i, i + 1, 0)

/-- ReadUint: the number, the place behind it, the error. -/
def rdU (L : List UInt8) (pos : Int) : Nat × Nat × Nat :=
  if pos < 0 ∨ (L.length : Int) < pos then (0, 0, 1)
  else match ru 0 0 (L.drop pos.toNat) with
    | (v, n, 0) => (v, pos.toNat + n, 0)
    | (_, _, e) => (0, 0, e)

theorem rdU_neg {L : List UInt8} {pos : Int} (h : pos < 0) : rdU L pos = (0, 0, 1) := by unfold rdU; rw [if_pos (.inl h)]
theorem rdU_far {L : List UInt8} {pos : Int} (h : (L.length : Int) < pos) : rdU L pos = (0, 0, 1) := by unfold rdU; rw [if_pos (.inr h)]
theorem rdU_ok {L : List UInt8} {a v n : Nat} (ha : a ≤ L.length) (h : ru 0 0 (L.drop a) = (v, n, 0)) : rdU L a = (v, a + n, 0) := by
  unfold rdU
  rw [if_neg (by omega), show ((a : Int)).toNat = a by omega, h]
  rfl
theorem rdU_err {L : List UInt8} {a v n e : Nat} (ha : a ≤ L.length) (h : ru 0 0 (L.drop a) = (v, n, e + 1)) : rdU L a = (0, 0, e + 1) := by
  unfold rdU
  rw [if_neg (by omega), show ((a : Int)).toNat = a by omega, h]
  rfl
theorem drop_at {L : List UInt8} {p : Nat} {c : UInt8} (h : L[p]? = some c) : L.drop p = c :: L.drop (p + 1) := by
  obtain ⟨hp, rfl⟩ := List.getElem?_eq_some_iff.1 h
  exact List.drop_eq_getElem_cons hp
theorem ru_nil (i v : Nat) : ru i v [] = (0, 0, 10) := rfl
theorem ru_wide {i v : Nat} {c : UInt8} {M : List UInt8} (hi : i = 9) (h : 1 < c.toNat) : ru i v (c :: M) = (0, 0, 12) := by
  simp only [ru]
  rw [if_pos ⟨hi, h⟩]
theorem ru_more {i v : Nat} {c : UInt8} {M : List UInt8} (h9 : ¬ (i = 9 ∧ 1 < c.toNat)) (h : 128 ≤ c.toNat) : ru i v (c :: M) = ru (i + 1) (v + c.toNat % 128 * 128 ^ i) M := by
  simp only [ru]
  rw [if_neg h9, if_pos h]
theorem ru_min {i v : Nat} {c : UInt8} {M : List UInt8} (h : c.toNat = 0) (hi : 0 < i) : ru i v (c :: M) = (0, 0, 11) := by
  simp only [ru]
  rw [if_neg (by omega), if_neg (by omega), if_pos ⟨h, hi⟩]
theorem ru_last {i v : Nat} {c : UInt8} {M : List UInt8} (h9 : ¬ (i = 9 ∧ 1 < c.toNat)) (h : c.toNat < 128) (h0 : ¬ (c.toNat = 0 ∧ 0 < i)) : ru i v (c :: M) = (v + c.toNat * 128 ^ i, i + 1, 0) := by
  simp only [ru]
  rw [if_neg h9, if_neg (by omega), if_neg h0]

/-! Frames. -/
/-- Four bytes, the lowest first. -/
def le4 (d : BitVec 32) : List UInt8 := [UInt8.ofNat (d.toNat % 256), UInt8.ofNat (d.toNat / 256 % 256), UInt8.ofNat (d.toNat / 65536 % 256), UInt8.ofNat (d.toNat / 16777216 % 256)]
/-- The length's bytes and the body. -/
def lenB (M : List UInt8) : List UInt8 := uenc M.length ++ M
/-- A sound body's frame. -/
def frm (M : List UInt8) : List UInt8 := lenB M ++ (le4 (crc (lenB M)) ++ [165])
def frmErr (M : List UInt8) : Nat := if M.length = 0 then 14 else if 1048576 < M.length then 13 else 0
def frmOut (M : List UInt8) : List UInt8 := if M.length = 0 ∨ 1048576 < M.length then [] else frm M

theorem ru_spec : ∀ (M : List UInt8) (i v v' n : Nat), i ≤ 9 → v < 128 ^ i → ru i v M = (v', n, 0) → i < n ∧ n ≤ i + M.length ∧ n ≤ 10 ∧ v' < 18446744073709551616
  | [], i, v, v', n, _, _, h => by simp [ru] at h
  | c :: M, i, v, v', n, hi, hv, h => by
    have hp : (128 : Nat) ^ i ≤ 128 ^ 9 := Nat.pow_le_pow_right (by omega) hi
    have hc := c.toNat_lt
    by_cases h1 : i = 9 ∧ 1 < c.toNat
    · obtain ⟨rfl, h1⟩ := h1
      rw [ru_wide rfl h1] at h
      simp at h
    · by_cases h2 : 128 ≤ c.toNat
      · rw [ru_more h1 h2] at h
        have hv2 : v + c.toNat % 128 * 128 ^ i < 128 ^ (i + 1) := by
          have : c.toNat % 128 * 128 ^ i ≤ 127 * 128 ^ i := Nat.mul_le_mul (by omega) (Nat.le_refl _)
          rw [Nat.pow_succ]
          omega
        have := ru_spec M (i + 1) _ v' n (by omega) hv2 h
        simp only [List.length_cons]
        omega
      · by_cases h3 : c.toNat = 0 ∧ 0 < i
        · rw [ru_min h3.1 h3.2] at h
          simp at h
        · rw [ru_last h1 (by omega) h3] at h
          simp only [Prod.mk.injEq] at h
          obtain ⟨rfl, rfl, _⟩ := h
          simp only [List.length_cons]
          refine ⟨by omega, by omega, by omega, ?_⟩
          by_cases h9 : i = 9
          · subst h9
            have : c.toNat * 128 ^ 9 ≤ 1 * 128 ^ 9 := Nat.mul_le_mul (by omega) (Nat.le_refl _)
            omega
          · have hp8 : (128 : Nat) ^ i ≤ 128 ^ 8 := Nat.pow_le_pow_right (by omega) (by omega)
            have : c.toNat * 128 ^ i ≤ 127 * 128 ^ 8 := Nat.mul_le_mul (by omega) hp8
            omega

theorem rdU_spec {L : List UInt8} {pos : Int} {n p : Nat} (h : rdU L pos = (n, p, 0)) :
    ∃ a k : Nat, pos = a ∧ a ≤ L.length ∧ p = a + k ∧ 0 < k ∧ k ≤ 10 ∧ p ≤ L.length ∧ Is64 n ∧ ru 0 0 (L.drop a) = (n, k, 0) := by
  unfold rdU at h
  split at h
  · simp at h
  · rename_i hp
    have hp' : 0 ≤ pos ∧ pos ≤ L.length := by omega
    split at h
    · rename_i v k hr
      simp only [Prod.mk.injEq] at h
      obtain ⟨rfl, rfl, _⟩ := h
      have := ru_spec _ 0 0 _ _ (by omega) (by omega) hr
      rw [List.length_drop] at this
      exact ⟨pos.toNat, k, by omega, by omega, rfl, by omega, by omega, by omega, Is64.mk this.2.2.2, hr⟩
    · rename_i hne hr
      simp only [Prod.mk.injEq] at h
      obtain ⟨rfl, rfl, rfl⟩ := h
      exact absurd rfl (by first | exact hne | exact hr)

/-- The bounds of a frame's body: (begin, end, error); all but the sum is asked. -/
def bnd (L : List UInt8) (pos : Int) : Nat × Nat × Nat :=
  match rdU L pos with
  | (n, p, 0) => if n = 0 then (0, 0, 14) else if 1048576 < n then (0, 0, 13) else if L.length < p + n + 5 then (0, 0, 10)
    else if L[p + n + 4]? = some 165 then (p, p + n, 0) else (0, 0, 15)
  | (_, _, e) => (0, 0, e)
theorem bnd_err {L : List UInt8} {pos : Int} {n p e : Nat} (h : rdU L pos = (n, p, e + 1)) : bnd L pos = (0, 0, e + 1) := by
  unfold bnd; rw [h]; rfl
theorem bnd_ok {L : List UInt8} {pos : Int} {n p : Nat} (h : rdU L pos = (n, p, 0)) : bnd L pos = if n = 0 then (0, 0, 14) else if 1048576 < n then (0, 0, 13) else if L.length < p + n + 5 then (0, 0, 10)
    else if L[p + n + 4]? = some 165 then (p, p + n, 0) else (0, 0, 15) := by
  unfold bnd; rw [h]; rfl

/-- The number that four bytes make, the lowest first. -/
def rd4 (L : List UInt8) (q : Nat) : Nat := (L.getD q 0).toNat + 256 * (L.getD (q + 1) 0).toNat + 65536 * (L.getD (q + 2) 0).toNat + 16777216 * (L.getD (q + 3) 0).toNat
/-- ReadFrame: the body, the place behind the frame, the error. -/
def rdF (L : List UInt8) (pos : Int) : List UInt8 × Nat × Nat :=
  match bnd L pos with
  | (p, q, 0) => if rd4 L q = (crc ((L.take q).drop pos.toNat)).toNat then ((L.take q).drop p, q + 5, 0) else ([], 0, 16)
  | (_, _, e) => ([], 0, e)
theorem rdF_err {L : List UInt8} {pos : Int} {p q e : Nat} (h : bnd L pos = (p, q, e + 1)) : rdF L pos = ([], 0, e + 1) := by
  unfold rdF; rw [h]; rfl
theorem rdF_ok {L : List UInt8} {pos : Int} {p q : Nat} (h : bnd L pos = (p, q, 0)) : rdF L pos = if rd4 L q = (crc ((L.take q).drop pos.toNat)).toNat then ((L.take q).drop p, q + 5, 0) else ([], 0, 16) := by
  unfold rdF; rw [h]; rfl
theorem bnd_spec {L : List UInt8} {pos : Int} {p q : Nat} (h : bnd L pos = (p, q, 0)) :
    ∃ a k n : Nat, pos = a ∧ p = a + k ∧ q = a + k + n ∧ 0 < k ∧ k ≤ 10 ∧ 1 ≤ n ∧ n ≤ 1048576 ∧ q + 5 ≤ L.length ∧ ru 0 0 (L.drop a) = (n, k, 0) ∧ L[q + 4]? = some 165 := by
  obtain ⟨n, pp, er, hE⟩ : ∃ n p er, rdU L pos = (n, p, er) := ⟨_, _, _, rfl⟩
  by_cases h0 : er = 0
  · subst h0
    rw [bnd_ok hE] at h
    obtain ⟨a, k, rfl, ha, rfl, hk, hk10, hpl, hn64, hru⟩ := rdU_spec hE
    by_cases h1 : n = 0
    · rw [if_pos h1] at h; simp at h
    · rw [if_neg h1] at h
      by_cases h2 : 1048576 < n
      · rw [if_pos h2] at h; simp at h
      · rw [if_neg h2] at h
        by_cases h3 : L.length < a + k + n + 5
        · rw [if_pos h3] at h; simp at h
        · rw [if_neg h3] at h
          by_cases h4 : L[a + k + n + 4]? = some 165
          · rw [if_pos h4] at h
            simp only [Prod.mk.injEq] at h
            obtain ⟨rfl, rfl, _⟩ := h
            exact ⟨a, k, n, rfl, rfl, rfl, hk, hk10, by omega, by omega, by omega, hru, h4⟩
          · rw [if_neg h4] at h; simp at h
  · obtain ⟨m, rfl⟩ : ∃ m, er = m + 1 := ⟨er - 1, by omega⟩
    rw [bnd_err hE] at h
    simp at h

end Go.Proofs.YtbobigaifkffoaaDoor
