/-
  PLAIN: what is framed is read again; a torn frame is none.
-/
import Derived.Test.YtbobigaifkffoaaDoorP2
namespace Go.Proofs.YtbobigaifkffoaaDoor
set_option linter.unusedVariables false
set_option linter.unusedSimpArgs false

theorem ru_uenc (N : List UInt8) : ∀ (v i acc : Nat), i ≤ 9 → v * 128 ^ i < 18446744073709551616 → (i = 0 ∨ 0 < v) → ru i acc (uenc v ++ N) = (acc + v * 128 ^ i, i + (uenc v).length, 0) := by
  intro v
  induction v using Nat.strongRecOn with
  | ind v ih =>
    intro i acc hi hv h0
    by_cases hlo : v < 128
    · rw [uenc_lo hlo]
      have hc : (UInt8.ofNat v).toNat = v := by simp; omega
      have h9 : ¬ (i = 9 ∧ 1 < (UInt8.ofNat v).toNat) := by
        rintro ⟨rfl, h⟩
        rw [hc] at h
        have : 2 * 128 ^ 9 ≤ v * 128 ^ 9 := Nat.mul_le_mul (by omega) (Nat.le_refl _)
        omega
      show ru i acc (UInt8.ofNat v :: N) = _
      rw [ru_last h9 (by rw [hc]; exact hlo) (by rw [hc]; omega), hc]
      rfl
    · rw [uenc_hi hlo]
      have hc : (UInt8.ofNat (v % 128 + 128)).toNat = v % 128 + 128 := by simp; omega
      have hi9 : i < 9 := by
        rcases Nat.lt_or_ge i 9 with h | h
        · exact h
        · obtain rfl : i = 9 := by omega
          have : 128 * 128 ^ 9 ≤ v * 128 ^ 9 := Nat.mul_le_mul (by omega) (Nat.le_refl _)
          omega
      show ru i acc (UInt8.ofNat (v % 128 + 128) :: (uenc (v / 128) ++ N)) = _
      rw [ru_more (by omega) (by rw [hc]; omega), hc]
      have hdm : v / 128 * 128 ^ (i + 1) + v % 128 * 128 ^ i = v * 128 ^ i := by
        rw [Nat.pow_succ, Nat.mul_comm (128 ^ i) 128, ← Nat.mul_assoc, ← Nat.add_mul]
        congr 1
        omega
      rw [ih (v / 128) (by omega) (i + 1) _ (by omega) (by omega) (.inr (by omega))]
      rw [show (v % 128 + 128) % 128 = v % 128 by omega]
      simp only [List.length_cons, Prod.mk.injEq, and_true]
      omega

/-- A number that stands in bytes, whatever lies ahead and behind. -/
theorem rdU_back (A N : List UInt8) (v : Nat) (hv : Is64 v) : rdU (A ++ uenc v ++ N) A.length = (v, A.length + (uenc v).length, 0) := by
  have h := ru_uenc N v 0 0 (by omega) (by have := hv.out; omega) (.inl rfl)
  rw [rdU_ok (by simp) (v := v) (n := (uenc v).length) (by
    rw [List.append_assoc, List.drop_left, h]
    simp)]

theorem frm_len (M : List UInt8) : (frm M).length = (uenc M.length).length + M.length + 5 := by
  simp [frm, lenB, le4]; omega

theorem u8_val (x : Nat) (h : x < 256) : (UInt8.ofNat x).toNat = x := by simp; omega

theorem rd4_le4 (A N : List UInt8) (d : BitVec 32) : rd4 (A ++ (le4 d ++ N)) A.length = d.toNat := by
  have hd := d.isLt
  have g : ∀ i, i < 4 → (A ++ (le4 d ++ N)).getD (A.length + i) 0 = (le4 d).getD i 0 := by
    intro i hi
    rw [List.getD_eq_getElem?_getD, List.getD_eq_getElem?_getD, List.getElem?_append_right (by omega), Nat.add_sub_cancel_left, List.getElem?_append_left (by simp [le4]; omega)]
  unfold rd4
  have g0 := g 0 (by omega)
  rw [Nat.add_zero] at g0
  rw [g0, g 1 (by omega), g 2 (by omega), g 3 (by omega)]
  simp only [le4, List.getD_cons_zero, List.getD_cons_succ]
  rw [u8_val _ (by omega), u8_val _ (by omega), u8_val _ (by omega), u8_val _ (by omega)]
  omega

/-- A frame that stands in bytes, whatever lies ahead and behind. -/
theorem rdF_back (A M N : List UInt8) (h0 : M.length ≠ 0) (h1 : M.length ≤ 1048576) : rdF (A ++ frm M ++ N) A.length = (M, A.length + (frm M).length, 0) := by
  have hU := rdU_back A (M ++ (le4 (crc (lenB M)) ++ [165]) ++ N) M.length (Is64.mk (by omega))
  have hL : A ++ uenc M.length ++ (M ++ (le4 (crc (lenB M)) ++ [165]) ++ N) = A ++ frm M ++ N := by simp [frm, lenB]
  rw [hL] at hU
  obtain ⟨u, hu⟩ : ∃ u, (uenc M.length).length = u := ⟨_, rfl⟩
  have hfl := frm_len M
  rw [hu] at hU hfl
  have h165 : (A ++ frm M ++ N)[A.length + u + M.length + 4]? = some 165 := by
    rw [List.append_assoc, List.getElem?_append_right (by omega), List.getElem?_append_left (by omega)]
    have : frm M = (uenc M.length ++ M ++ le4 (crc (lenB M))) ++ [165] := by simp [frm, lenB]
    rw [this, List.getElem?_append_right (by simp [le4, hu]; omega)]
    simp [le4, hu]
    rw [show A.length + u + M.length + 4 - A.length - (u + (M.length + 4)) = 0 by omega]
    rfl
  have hB : bnd (A ++ frm M ++ N) A.length = (A.length + u, A.length + u + M.length, 0) := by
    rw [bnd_ok hU, if_neg h0, if_neg (by omega), if_neg (by simp; omega), if_pos h165]
  rw [rdF_ok hB]
  have hq : (A ++ frm M ++ N).take (A.length + u + M.length) = A ++ lenB M := by
    have : A ++ frm M ++ N = (A ++ lenB M) ++ ((le4 (crc (lenB M)) ++ [165]) ++ N) := by simp [frm]
    rw [this]
    rw [List.take_append_of_le_length (by simp [lenB, hu]; omega), List.take_of_length_le (by simp [lenB, hu]; omega)]
  have h4 : rd4 (A ++ frm M ++ N) (A.length + u + M.length) = (crc (lenB M)).toNat := by
    have := rd4_le4 (A ++ lenB M) ([165] ++ N) (crc (lenB M))
    have e : A ++ frm M ++ N = (A ++ lenB M) ++ (le4 (crc (lenB M)) ++ ([165] ++ N)) := by simp [frm]
    rw [← e, show (A ++ lenB M).length = A.length + u + M.length by simp [lenB, hu]; omega] at this
    exact this
  rw [hq, h4]
  rw [show ((A.length : Int)).toNat = A.length by omega, List.drop_left, if_pos rfl]
  congr 1
  · have : A ++ lenB M = (A ++ uenc M.length) ++ M := by simp [lenB]
    rw [this, show A.length + u = (A ++ uenc M.length).length by simp [hu], List.drop_left]
  · congr 1
    omega

/-- With an error there is no body and the place is 0. -/
theorem rdF_bad {L : List UInt8} {pos : Int} (h : (rdF L pos).2.2 ≠ 0) : (rdF L pos).1 = [] ∧ (rdF L pos).2.1 = 0 := by
  obtain ⟨p, q, er, hE⟩ : ∃ p q er, bnd L pos = (p, q, er) := ⟨_, _, _, rfl⟩
  by_cases h0 : er = 0
  · subst h0
    rw [rdF_ok hE] at h ⊢
    split at h
    · exact absurd rfl h
    · rename_i hc
      rw [if_neg hc]
      exact ⟨rfl, rfl⟩
  · obtain ⟨m, rfl⟩ : ∃ m, er = m + 1 := ⟨er - 1, by omega⟩
    rw [rdF_err hE]
    exact ⟨rfl, rfl⟩

theorem uenc_high (v : Nat) : ∀ i, i + 1 < (uenc v).length → ∃ c, (uenc v)[i]? = some c ∧ 128 ≤ c.toNat := by
  induction v using Nat.strongRecOn with
  | ind v ih =>
    intro i hi
    by_cases hlo : v < 128
    · rw [uenc_lo hlo] at hi
      simp at hi
    · rw [uenc_hi hlo] at hi ⊢
      match i with
      | 0 => exact ⟨_, rfl, by simp; omega⟩
      | i + 1 =>
        obtain ⟨c, h1, h2⟩ := ih (v / 128) (by omega) i (by simpa using hi)
        exact ⟨c, by simpa using h1, h2⟩

/-- Bytes of 128 and above, and then a zero or nothing: no number but 0. -/
theorem ru_torn : ∀ (H Z : List UInt8) (i acc : Nat), i + H.length ≤ 8 → (∀ c ∈ H, 128 ≤ c.toNat) → (∀ c ∈ Z, c = 0) → (i = 0 → H = [] → acc = 0) →
    (ru i acc (H ++ Z)).2.2 ≠ 0 ∨ ((ru i acc (H ++ Z)).1 = 0)
  | [], [], i, acc, _, _, _, _ => .inl (by simp [ru])
  | [], z :: Z, i, acc, hi, _, hz, hacc => by
    obtain rfl : z = 0 := hz z (by simp)
    simp only [List.length_nil, Nat.add_zero] at hi
    by_cases h0 : i = 0
    · right
      subst h0
      rw [List.nil_append, ru_last (by omega) (by decide) (by decide), hacc rfl rfl]
      rfl
    · left
      rw [List.nil_append, ru_min (by decide) (by omega)]
      decide
  | h :: H, Z, i, acc, hi, hh, hz, hacc => by
    simp only [List.length_cons] at hi
    rw [List.cons_append, ru_more (by omega) (hh h (by simp))]
    exact ru_torn H Z (i + 1) _ (by omega) (fun c hc => hh c (by simp [hc])) hz (fun h => by omega)

/-- 1.3: a torn frame, any number of zeros behind it, anything ahead of it. -/
theorem rdF_torn (A M : List UInt8) (h1 : M.length ≤ 1048576) (h0 : M.length ≠ 0) (k z : Nat) (hk : k < (frm M).length) :
    (rdF (A ++ ((frm M).take k ++ List.replicate z 0)) A.length).2.2 ≠ 0 := by
  obtain ⟨L, hL⟩ : ∃ L, A ++ ((frm M).take k ++ List.replicate z 0) = L := ⟨_, rfl⟩
  rw [hL]
  intro hbad
  obtain ⟨p, q, er, hE⟩ : ∃ p q er, bnd L A.length = (p, q, er) := ⟨_, _, _, rfl⟩
  have her : er = 0 := by
    rcases Nat.eq_zero_or_pos er with h | h
    · exact h
    · obtain ⟨m, rfl⟩ : ∃ m, er = m + 1 := ⟨er - 1, by omega⟩
      rw [rdF_err hE] at hbad
      simp at hbad
  subst her
  obtain ⟨a, kk, n, ha, rfl, rfl, hk0, hk10, hn1, hn2, hql, hru, h165⟩ := bnd_spec hE
  obtain rfl : A.length = a := by omega
  rw [← hL, List.drop_left] at hru
  obtain ⟨u, hu⟩ : ∃ u, (uenc M.length).length = u := ⟨_, rfl⟩
  have hfl := frm_len M
  rw [hu] at hfl
  have hu8 : u ≤ 4 := by rw [← hu]; exact uenc_len 3 _ (by omega)
  have hf : frm M = uenc M.length ++ (M ++ (le4 (crc (lenB M)) ++ [165])) := by simp [frm, lenB]
  by_cases hku : k < u
  · have ht : (frm M).take k = (uenc M.length).take k := by rw [hf, List.take_append_of_le_length (by omega)]
    rw [ht] at hru
    have := ru_torn ((uenc M.length).take k) (List.replicate z 0) 0 0 (by simp; omega) (by
      intro c hc
      obtain ⟨j, hj, rfl⟩ := List.mem_iff_getElem.1 hc
      simp at hj
      obtain ⟨c', h3, h4⟩ := uenc_high M.length j (by omega)
      simp only [List.getElem_take]
      rw [List.getElem?_eq_getElem (by omega)] at h3
      rw [Option.some.inj h3]
      exact h4) (fun c hc => List.eq_of_mem_replicate hc) (fun _ _ => rfl)
    rw [hru] at this
    simp at this
    omega
  · have ht : (frm M).take k = uenc M.length ++ (M ++ (le4 (crc (lenB M)) ++ [165])).take (k - u) := by
      rw [hf, List.take_append, hu, List.take_of_length_le (by omega)]
    rw [ht, List.append_assoc, ru_uenc _ M.length 0 0 (by omega) (by omega) (.inl rfl)] at hru
    simp only [Prod.mk.injEq] at hru
    obtain ⟨hn, hkk, _⟩ := hru
    rw [← hL, List.getElem?_append_right (by omega)] at h165
    rw [List.getElem?_append_right (by rw [List.length_take]; omega), List.getElem?_replicate] at h165
    split at h165
    · simp at h165
    · simp at h165

end Go.Proofs.YtbobigaifkffoaaDoor
