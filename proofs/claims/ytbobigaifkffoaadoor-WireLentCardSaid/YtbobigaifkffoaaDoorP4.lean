/-
  PLAIN: a burst is told: bits turned over within 32 beside one another change the register.
-/
import Derived.Test.YtbobigaifkffoaaDoorP3
namespace Go.Proofs.YtbobigaifkffoaaDoor
set_option linter.unusedVariables false
set_option linter.unusedSimpArgs false

theorem bitStep_inj0 {c : BitVec 32} (h : bitStep c = 0#32) : c = 0#32 := by
  unfold bitStep at h
  by_cases h0 : c.getLsbD 0 = true
  · rw [h0, if_pos rfl] at h
    have h1 := congrArg (fun x => x.getLsbD 31) h
    simp [BitVec.getLsbD_xor, BitVec.getLsbD_ushiftRight] at h1
  · rw [if_neg h0, BitVec.xor_zero] at h
    apply BitVec.eq_of_getLsbD_eq
    intro i hi
    by_cases hi0 : i = 0
    · subst hi0; simpa using h0
    · have h1 := congrArg (fun x => x.getLsbD (i - 1)) h
      simp only [BitVec.getLsbD_ushiftRight] at h1
      rw [show 1 + (i - 1) = i by omega] at h1
      rw [h1]
      simp
theorem steps_inj0 : ∀ (n : Nat) {c : BitVec 32}, steps n c = 0#32 → c = 0#32
  | 0, _, h => h
  | n + 1, c, h => bitStep_inj0 (steps_inj0 n h)

theorem byteStep_lin (c d : BitVec 32) (b : UInt8) : byteStep (c ^^^ d) b = byteStep c b ^^^ steps 8 d := by
  unfold byteStep
  rw [← steps_xor]
  congr 1
  ac_rfl
theorem reg_lin : ∀ (L : List UInt8) (c d : BitVec 32), reg (c ^^^ d) L = reg c L ^^^ steps (8 * L.length) d
  | [], c, d => rfl
  | b :: L, c, d => by
    have h : reg (c ^^^ d) (b :: L) = reg (byteStep (c ^^^ d) b) L := rfl
    rw [h, byteStep_lin, reg_lin L, ← steps_add]
    have h2 : reg c (b :: L) = reg (byteStep c b) L := rfl
    rw [h2, show 8 + 8 * L.length = 8 * (b :: L).length by simp; omega]

theorem steps_bit : ∀ i, i < 32 → steps i (1#32 <<< i) = 1#32 := by decide +kernel
theorem steps_shift (T i : Nat) (hi : i < 32) (hT : i ≤ T) : steps T (1#32 <<< i) = steps (T - i) 1#32 := by
  have h := steps_add i (T - i) (1#32 <<< i)
  rw [steps_bit i hi, show i + (T - i) = T by omega] at h
  exact h

/-- One bit turned over. -/
def flip1 (L : List UInt8) (p : Nat) : List UInt8 := L.set (p / 8) (L.getD (p / 8) 0 ^^^ UInt8.ofNat (2 ^ (p % 8)))
theorem flip1_len (L : List UInt8) (p : Nat) : (flip1 L p).length = L.length := by simp [flip1]

theorem byte_xor (a b : UInt8) : BitVec.ofNat 32 (a ^^^ b).toNat = BitVec.ofNat 32 a.toNat ^^^ BitVec.ofNat 32 b.toNat := by
  simp
theorem byteStep_flip (c : BitVec 32) (x : UInt8) (b : Nat) (hb : b < 8) : byteStep c (x ^^^ UInt8.ofNat (2 ^ b)) = byteStep c x ^^^ steps (8 - b) 1#32 := by
  unfold byteStep
  rw [byte_xor, ← BitVec.xor_assoc, steps_xor]
  congr 1
  have h : BitVec.ofNat 32 (UInt8.ofNat (2 ^ b)).toNat = 1#32 <<< b := by
    have : ∀ b, b < 8 → BitVec.ofNat 32 (UInt8.ofNat (2 ^ b)).toNat = 1#32 <<< b := by decide
    exact this b hb
  rw [h]
  exact steps_shift 8 b (by omega) (by omega)
theorem reg_flip (L : List UInt8) (p : Nat) (c : BitVec 32) (hp : p / 8 < L.length) : reg c (flip1 L p) = reg c L ^^^ steps (8 * L.length - p) 1#32 := by
  have hs : L = L.take (p / 8) ++ L.getD (p / 8) 0 :: L.drop (p / 8 + 1) := by
    have h1 := List.take_append_drop (p / 8) L
    rw [List.drop_eq_getElem_cons hp] at h1
    rw [List.getD_eq_getElem?_getD, List.getElem?_eq_getElem hp]
    exact h1.symm
  have hf : flip1 L p = L.take (p / 8) ++ (L.getD (p / 8) 0 ^^^ UInt8.ofNat (2 ^ (p % 8))) :: L.drop (p / 8 + 1) := by
    unfold flip1
    rw [List.set_eq_take_append_cons_drop, if_pos hp]
  obtain ⟨A, hA⟩ : ∃ A, L.take (p / 8) = A := ⟨_, rfl⟩
  obtain ⟨B, hB⟩ : ∃ B, L.drop (p / 8 + 1) = B := ⟨_, rfl⟩
  obtain ⟨x, hx⟩ : ∃ x, L.getD (p / 8) 0 = x := ⟨_, rfl⟩
  have hl : L.length = p / 8 + 1 + B.length := by rw [← hB]; simp; omega
  rw [hA, hB, hx] at hs hf
  rw [hf, hl]
  rw [hs, reg_append, reg_append]
  show reg (byteStep (reg c A) (x ^^^ UInt8.ofNat (2 ^ (p % 8)))) B = reg (byteStep (reg c A) x) B ^^^ _
  rw [byteStep_flip _ _ _ (by omega), reg_lin, ← steps_add]
  congr 2
  omega

/-- What 'turned' makes: the bits from the place 'first' on that stand in the mask, as far as they lie below 'last' bytes. (i: how many are done) -/
def trn (first last : Nat) : Nat → Nat → Nat → List UInt8 → Bool → List UInt8 × Bool
  | 0, _, _, L, any => (L, any)
  | n + 1, i, mask, L, any => if mask % 2 = 1 ∧ (first + i) / 8 < last then trn first last n (i + 1) (mask / 2) (flip1 L (first + i)) true else trn first last n (i + 1) (mask / 2) L any

theorem two_shl (i : Nat) (hi : i < 32) : (1#32 <<< i : BitVec 32).toNat = 2 ^ i := by
  have : ∀ i, i < 32 → (1#32 <<< i : BitVec 32).toNat = 2 ^ i := by decide
  exact this i hi
theorem xor_high (m : BitVec 32) (i : Nat) (hi : i < 32) (hm : m.toNat < 2 ^ i) : (m ^^^ 1#32 <<< i).toNat = m.toNat + 2 ^ i := by
  rw [BitVec.toNat_xor, two_shl i hi]
  have h := Nat.two_pow_add_eq_or_of_lt hm 1
  rw [Nat.mul_one] at h
  have h2 : m.toNat ^^^ 2 ^ i = 2 ^ i ||| m.toNat := by
    apply Nat.eq_of_testBit_eq
    intro j
    rw [Nat.testBit_xor, Nat.testBit_or, Nat.testBit_two_pow]
    by_cases hj : i = j
    · subst hj
      rw [Nat.testBit_lt_two_pow hm]
      simp
    · simp [hj]
  rw [h2, ← h]
  omega

/-- The register behind the turning: changed by a number that is not 0 if there was a bit. -/
theorem trn_reg (first last : Nat) (c : BitVec 32) : ∀ (n i mask : Nat) (L : List UInt8) (any : Bool) (m r0 : BitVec 32), i + n ≤ 32 → last = L.length → first ≤ 8 * last → reg c L = r0 ^^^ steps (8 * last - first) m →
    m.toNat < 2 ^ i → (any = true → m ≠ 0#32) →
    (trn first last n i mask L any).1.length = L.length ∧ ((trn first last n i mask L any).2 = true → reg c (trn first last n i mask L any).1 ≠ r0)
  | 0, i, mask, L, any, m, r0, _, _, _, hr, _, ha => by
    refine ⟨rfl, fun h he => ha h ?_⟩
    have he' : reg c L = r0 := he
    rw [hr] at he'
    apply steps_inj0 (8 * last - first)
    have := congrArg (fun x => r0 ^^^ x) he'
    simp only [← BitVec.xor_assoc, BitVec.xor_self, BitVec.zero_xor] at this
    exact this
  | n + 1, i, mask, L, any, m, r0, hin, hl, hf, hr, hm, ha => by
    simp only [trn]
    have hp : 2 ^ (i + 1) = 2 * 2 ^ i := by rw [Nat.pow_succ]; omega
    split
    · rename_i hc
      have hfl := reg_flip L (first + i) c (by omega)
      have ht : steps (8 * L.length - (first + i)) 1#32 = steps (8 * last - first) (1#32 <<< i) := by
        rw [steps_shift _ i (by omega) (by omega)]
        congr 1
        omega
      rw [ht, hr, BitVec.xor_assoc, ← steps_xor] at hfl
      have hx := xor_high m i (by omega) hm
      have ih := trn_reg first last c n (i + 1) (mask / 2) (flip1 L (first + i)) true (m ^^^ 1#32 <<< i) r0 (by omega) (by rw [flip1_len]; exact hl) hf hfl (by rw [hx, hp]; omega) (fun _ h0 => by
        have := congrArg BitVec.toNat h0
        rw [hx] at this
        have hpos := Nat.two_pow_pos i
        have h00 : (0#32 : BitVec 32).toNat = 0 := rfl
        omega)
      rw [flip1_len] at ih
      exact ih
    · exact trn_reg first last c n (i + 1) (mask / 2) L any m r0 (by omega) hl hf hr (by rw [hp]; omega) ha

theorem steps8_shl (y : BitVec 32) (h : y.toNat < 2 ^ 24) : steps 8 (y <<< 8) = y := by
  simp only [steps]
  rw [bitStep_shl y 7 (by omega) (by omega), bitStep_shl y 6 (by omega) (by omega), bitStep_shl y 5 (by omega) (by omega), bitStep_shl y 4 (by omega) (by omega),
    bitStep_shl y 3 (by omega) (by omega), bitStep_shl y 2 (by omega) (by omega), bitStep_shl y 1 (by omega) (by omega), bitStep_shl y 0 (by omega) (by omega)]
  simp
theorem split8 (c : BitVec 32) : c = BitVec.ofNat 32 (c.toNat % 256) ^^^ ((c >>> 8) <<< 8) := by
  apply BitVec.eq_of_getLsbD_eq
  intro i hi
  rw [BitVec.getLsbD_xor, BitVec.getLsbD_shiftLeft, BitVec.getLsbD_ushiftRight, BitVec.getLsbD_ofNat]
  rw [show (256 : Nat) = 2 ^ 8 from rfl, Nat.testBit_mod_two_pow]
  by_cases h : i < 8
  · simp [h, hi, BitVec.getLsbD]
  · simp [h, hi, show 8 + (i - 8) = i by omega]
theorem steps8_byte (R d : BitVec 32) : steps 8 (R ^^^ d) = byteStep R (UInt8.ofNat (d.toNat % 256)) ^^^ (d >>> 8) := by
  have h : steps 8 (R ^^^ d) = steps 8 (R ^^^ (BitVec.ofNat 32 (d.toNat % 256) ^^^ ((d >>> 8) <<< 8))) := congrArg (fun x => steps 8 (R ^^^ x)) (split8 d)
  rw [h, ← BitVec.xor_assoc, steps_xor, steps8_shl (d >>> 8) (by
    rw [BitVec.toNat_ushiftRight, Nat.shiftRight_eq_div_pow]
    have := d.isLt
    omega)]
  unfold byteStep
  rw [u8_val _ (Nat.mod_lt _ (by omega))]
theorem shr_val (d : BitVec 32) (k : Nat) : (d >>> k).toNat = d.toNat / 2 ^ k := by rw [BitVec.toNat_ushiftRight, Nat.shiftRight_eq_div_pow]
/-- Four bytes read into the register. -/
theorem reg_le4 (R d : BitVec 32) : reg R (le4 d) = steps 32 (R ^^^ d) := by
  have hd := d.isLt
  have e : ∀ (R d : BitVec 32) (k : Nat), steps (8 + k) (R ^^^ d) = steps k (byteStep R (UInt8.ofNat (d.toNat % 256)) ^^^ (d >>> 8)) := fun R d k => by rw [steps_add, steps8_byte]
  have e1 := e R d 24
  have e2 := e (byteStep R (UInt8.ofNat (d.toNat % 256))) (d >>> 8) 16
  have e3 := e (byteStep (byteStep R (UInt8.ofNat (d.toNat % 256))) (UInt8.ofNat ((d >>> 8).toNat % 256))) (d >>> 8 >>> 8) 8
  have e4 := e (byteStep (byteStep (byteStep R (UInt8.ofNat (d.toNat % 256))) (UInt8.ofNat ((d >>> 8).toNat % 256))) (UInt8.ofNat ((d >>> 8 >>> 8).toNat % 256))) (d >>> 8 >>> 8 >>> 8) 0
  have h32' : steps 32 (R ^^^ d) = _ := e1.trans (e2.trans (e3.trans e4))
  rw [h32']
  simp only [le4, reg, List.foldl_cons, List.foldl_nil]
  have h8 := shr_val d 8
  have h16 : (d >>> 8 >>> 8).toNat = d.toNat / 65536 := by rw [shr_val, shr_val]; omega
  have h24 : (d >>> 8 >>> 8 >>> 8).toNat = d.toNat / 16777216 := by rw [shr_val, shr_val, shr_val]; omega
  have h32 : d >>> 8 >>> 8 >>> 8 >>> 8 = 0#32 := by
    apply BitVec.eq_of_toNat_eq
    rw [shr_val, shr_val, shr_val, shr_val]
    simp
    omega
  rw [h8, h16, h24, h32, BitVec.xor_zero]
  simp only [steps]
/-- The sum is right just if the register behind the four bytes is this. -/
theorem told_iff (Z : List UInt8) (d : BitVec 32) : reg (~~~ 0#32) (Z ++ le4 d) = steps 32 (~~~ 0#32) ↔ d = crc Z := by
  rw [reg_append, reg_le4]
  constructor
  · intro h
    have h1 : steps 32 ((reg (~~~ 0#32) Z ^^^ d) ^^^ ~~~ 0#32) = 0#32 := by rw [steps_xor, h, BitVec.xor_self]
    have h2 := steps_inj0 32 h1
    unfold crc
    have h3 := congrArg (fun x => x ^^^ (reg (~~~ 0#32) Z ^^^ ~~~ 0#32)) h2
    simp only [BitVec.zero_xor] at h3
    have h4 : reg (~~~ 0#32) Z ^^^ d ^^^ ~~~ 0#32 ^^^ (reg (~~~ 0#32) Z ^^^ ~~~ 0#32) = d := by
      rw [show reg (~~~ 0#32) Z ^^^ d ^^^ ~~~ 0#32 ^^^ (reg (~~~ 0#32) Z ^^^ ~~~ 0#32) = (reg (~~~ 0#32) Z ^^^ reg (~~~ 0#32) Z) ^^^ (~~~ 0#32 ^^^ ~~~ 0#32) ^^^ d by ac_rfl]
      rw [BitVec.xor_self, BitVec.xor_self, BitVec.zero_xor, BitVec.zero_xor]
    rw [h4] at h3
    rw [h3, show ~~~ 0#32 = BitVec.allOnes 32 from rfl, BitVec.xor_allOnes]
  · rintro rfl
    unfold crc
    congr 1
    rw [show ~~~ 0#32 = BitVec.allOnes 32 from rfl]
    apply BitVec.eq_of_getLsbD_eq
    intro i hi
    rw [BitVec.getLsbD_xor, BitVec.getLsbD_not, BitVec.getLsbD_allOnes]
    simp only [hi, decide_true, Bool.true_and]
    cases (reg (BitVec.allOnes 32) Z).getLsbD i <;> rfl

theorem flip1_append (L X : List UInt8) (p : Nat) (hp : p / 8 < L.length) : flip1 (L ++ X) p = flip1 L p ++ X := by
  unfold flip1
  rw [List.set_append_left _ _ hp]
  congr 2
  rw [List.getD_eq_getElem?_getD, List.getD_eq_getElem?_getD, List.getElem?_append_left hp]
theorem trn_append (first last : Nat) (X : List UInt8) : ∀ (n i mask : Nat) (L : List UInt8) (any : Bool), last ≤ L.length →
    trn first last n i mask (L ++ X) any = ((trn first last n i mask L any).1 ++ X, (trn first last n i mask L any).2)
  | 0, _, _, _, _, _ => rfl
  | n + 1, i, mask, L, any, h => by
    simp only [trn]
    split
    · rename_i hc
      rw [flip1_append _ _ _ (by omega)]
      exact trn_append first last X n (i + 1) (mask / 2) _ true (by rw [flip1_len]; exact h)
    · exact trn_append first last X n (i + 1) (mask / 2) L any h
theorem flip1_take (L : List UInt8) (p u : Nat) (h : 8 * u ≤ p) : (flip1 L p).take u = L.take u := by
  unfold flip1
  rw [List.take_set]
  apply List.set_eq_of_length_le
  rw [List.length_take]
  omega
theorem trn_take (first last u : Nat) (hu : 8 * u ≤ first) : ∀ (n i mask : Nat) (L : List UInt8) (any : Bool), ((trn first last n i mask L any).1).take u = L.take u
  | 0, _, _, _, _ => rfl
  | n + 1, i, mask, L, any => by
    simp only [trn]
    split
    · rw [trn_take first last u hu n, flip1_take _ _ _ (by omega)]
    · rw [trn_take first last u hu n]
theorem trn_len (first last : Nat) : ∀ (n i mask : Nat) (L : List UInt8) (any : Bool), ((trn first last n i mask L any).1).length = L.length
  | 0, _, _, _, _ => rfl
  | n + 1, i, mask, L, any => by
    simp only [trn]
    split
    · rw [trn_len first last n, flip1_len]
    · rw [trn_len first last n]

theorem le4_of (a b c d : UInt8) : le4 (BitVec.ofNat 32 (a.toNat + 256 * b.toNat + 65536 * c.toNat + 16777216 * d.toNat)) = [a, b, c, d] := by
  have ha := a.toNat_lt
  have hb := b.toNat_lt
  have hc := c.toNat_lt
  have hd := d.toNat_lt
  have hv : (BitVec.ofNat 32 (a.toNat + 256 * b.toNat + 65536 * c.toNat + 16777216 * d.toNat)).toNat = a.toNat + 256 * b.toNat + 65536 * c.toNat + 16777216 * d.toNat := by
    rw [BitVec.toNat_ofNat, Nat.mod_eq_of_lt (by omega)]
  unfold le4
  rw [hv]
  have k : ∀ (x : UInt8) (n : Nat), n = x.toNat → UInt8.ofNat n = x := fun x n h => by rw [h]; simp
  rw [k a _ (by omega), k b _ (by omega), k c _ (by omega), k d _ (by omega)]

/-- 1.4. -/
theorem rdF_burst (M : List UInt8) (h0 : M.length ≠ 0) (h1 : M.length ≤ 1048576) (first mask : Nat) (hf : first < 8 * (M.length + 4))
    (hany : (trn (8 * (uenc M.length).length + first) ((frm M).length - 1) 32 0 mask (frm M) false).2 = true) :
    rdF (trn (8 * (uenc M.length).length + first) ((frm M).length - 1) 32 0 mask (frm M) false).1 0 = ([], 0, 16) := by
  obtain ⟨u, hu⟩ : ∃ u, (uenc M.length).length = u := ⟨_, rfl⟩
  have hfl := frm_len M
  rw [hu] at hfl hany ⊢
  obtain ⟨B, hB⟩ : ∃ B, lenB M ++ le4 (crc (lenB M)) = B := ⟨_, rfl⟩
  have hF : frm M = B ++ [165] := by rw [← hB]; simp [frm]
  have hBl : B.length = u + M.length + 4 := by rw [← hB]; simp [lenB, le4, hu]; omega
  have hlast : (frm M).length - 1 = B.length := by omega
  rw [hlast, hF, trn_append _ _ _ _ _ _ _ _ (Nat.le_refl _)] at hany ⊢
  have hr := trn_reg (8 * u + first) B.length (~~~ 0#32) 32 0 mask B false 0#32 (reg (~~~ 0#32) B) (by omega) rfl (by omega) (by
    rw [steps_zero, BitVec.xor_zero]) (by decide) (by simp)
  have htk := trn_take (8 * u + first) B.length u (by omega) 32 0 mask B false
  have hlen := hr.1
  have hne := hr.2 hany
  obtain ⟨B', hB'⟩ : ∃ B', (trn (8 * u + first) B.length 32 0 mask B false).1 = B' := ⟨_, rfl⟩
  rw [hB'] at htk hlen hne ⊢
  clear hr hany
  have hgood : reg (~~~ 0#32) B = steps 32 (~~~ 0#32) := by rw [← hB]; exact (told_iff _ _).2 rfl
  rw [hgood] at hne
  have hBu : B.take u = uenc M.length := by
    rw [← hB, lenB, List.append_assoc, List.take_append_of_le_length (by omega), List.take_of_length_le (by omega)]
  have hsplit : B' = uenc M.length ++ B'.drop u := by rw [← hBu, ← htk]; exact (List.take_append_drop u B').symm
  obtain ⟨Y, hY⟩ : ∃ Y, B'.drop u = Y := ⟨_, rfl⟩
  rw [hY] at hsplit
  have hYl : Y.length = M.length + 4 := by rw [← hY, List.length_drop]; omega
  have hU : rdU (B' ++ [165]) 0 = (M.length, u, 0) := by
    have := rdU_back [] (Y ++ [165]) M.length (Is64.mk (by omega))
    rw [hsplit]
    simpa [hu] using this
  have h165 : (B' ++ [165])[u + M.length + 4]? = some 165 := by
    rw [List.getElem?_append_right (by omega), show u + M.length + 4 - B'.length = 0 by omega]; rfl
  have hBn : bnd (B' ++ [165]) 0 = (u, u + M.length, 0) := by
    rw [bnd_ok hU, if_neg h0, if_neg (by omega), if_neg (by simp; omega), if_pos h165]
  rw [rdF_ok hBn]
  have hg : ∀ i, i < 4 → ∃ x, B'[u + M.length + i]? = some x := fun i hi => ⟨_, List.getElem?_eq_getElem (by omega)⟩
  obtain ⟨x0, g0⟩ := hg 0 (by omega)
  obtain ⟨x1, g1⟩ := hg 1 (by omega)
  obtain ⟨x2, g2⟩ := hg 2 (by omega)
  obtain ⟨x3, g3⟩ := hg 3 (by omega)
  rw [Nat.add_zero] at g0
  have hd4 : B'.drop (u + M.length) = [x0, x1, x2, x3] := by
    rw [drop_at g0, drop_at g1, drop_at g2, drop_at g3]
    rw [List.drop_of_length_le (by omega)]
  have hrd : rd4 (B' ++ [165]) (u + M.length) = x0.toNat + 256 * x1.toNat + 65536 * x2.toNat + 16777216 * x3.toNat := by
    unfold rd4
    have e : ∀ i x, B'[i]? = some x → (B' ++ [165]).getD i 0 = x := by
      intro i x h
      rw [List.getD_eq_getElem?_getD, List.getElem?_append_left (List.getElem?_eq_some_iff.1 h).1, h]; rfl
    rw [e _ _ g0, e _ _ g1, e _ _ g2, e _ _ g3]
  have hZ : ((B' ++ [165]).take (u + M.length)).drop (Int.toNat 0) = B'.take (u + M.length) := by
    rw [List.take_append_of_le_length (by omega)]; rfl
  rw [hrd, hZ]
  refine if_neg (fun heq => hne ?_)
  have hall : B' = B'.take (u + M.length) ++ le4 (BitVec.ofNat 32 (x0.toNat + 256 * x1.toNat + 65536 * x2.toNat + 16777216 * x3.toNat)) := by
    rw [le4_of, ← hd4]
    exact (List.take_append_drop _ _).symm
  rw [hall]
  refine (told_iff _ _).2 ?_
  apply BitVec.eq_of_toNat_eq
  rw [← heq, BitVec.toNat_ofNat, Nat.mod_eq_of_lt]
  have := x0.toNat_lt
  have := x1.toNat_lt
  have := x2.toNat_lt
  have := x3.toNat_lt
  omega

end Go.Proofs.YtbobigaifkffoaaDoor
