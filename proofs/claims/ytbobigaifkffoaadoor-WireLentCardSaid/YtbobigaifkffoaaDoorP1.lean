/-
  PLAIN: the cyclic sum, by bits and by a table of sixteen; its linearity; a burst is told.
-/
namespace Go.Proofs.YtbobigaifkffoaaDoor
set_option linter.unusedVariables false
set_option linter.unusedSimpArgs false

def bitStep (c : BitVec 32) : BitVec 32 := (c >>> 1) ^^^ (if c.getLsbD 0 then 0xedb88320#32 else 0#32)
def steps : Nat → BitVec 32 → BitVec 32
  | 0, c => c
  | n + 1, c => steps n (bitStep c)
def byteStep (c : BitVec 32) (b : UInt8) : BitVec 32 := steps 8 (c ^^^ BitVec.ofNat 32 b.toNat)
def reg (c : BitVec 32) (L : List UInt8) : BitVec 32 := L.foldl byteStep c
def crc (L : List UInt8) : BitVec 32 := ~~~ reg (~~~ 0#32) L

theorem bitStep_zero : bitStep 0#32 = 0#32 := by decide
theorem bitStep_xor (a b : BitVec 32) : bitStep (a ^^^ b) = bitStep a ^^^ bitStep b := by
  unfold bitStep
  rw [BitVec.ushiftRight_xor_distrib, BitVec.getLsbD_xor]
  cases a.getLsbD 0 <;> cases b.getLsbD 0 <;> simp <;> first | ac_rfl | (rw [show a >>> 1 ^^^ 3988292384#32 ^^^ (b >>> 1 ^^^ 3988292384#32) = (3988292384#32 ^^^ 3988292384#32) ^^^ (a >>> 1 ^^^ b >>> 1) by ac_rfl, BitVec.xor_self, BitVec.zero_xor])
theorem steps_xor (n : Nat) : ∀ a b : BitVec 32, steps n (a ^^^ b) = steps n a ^^^ steps n b := by
  induction n with
  | zero => intro a b; rfl
  | succ n ih => intro a b; simp only [steps]; rw [bitStep_xor, ih]
theorem steps_zero (n : Nat) : steps n 0#32 = 0#32 := by
  induction n with
  | zero => rfl
  | succ n ih => simp only [steps, bitStep_zero]; exact ih
theorem steps_add (m : Nat) : ∀ (n : Nat) (c : BitVec 32), steps (m + n) c = steps n (steps m c) := by
  induction m with
  | zero => intro n c; rw [Nat.zero_add]; rfl
  | succ m ih => intro n c; rw [show m + 1 + n = (m + n) + 1 by omega]; simp only [steps]; exact ih n _

theorem bitStep_shl (d : BitVec 32) (k : Nat) (hd : d.toNat < 2 ^ (31 - k)) (hk : k < 31) : bitStep (d <<< (k + 1)) = d <<< k := by
  unfold bitStep
  have h0 : (d <<< (k + 1)).getLsbD 0 = false := by simp [BitVec.getLsbD_shiftLeft]
  rw [h0]
  simp only [Bool.false_eq_true, if_false, BitVec.xor_zero]
  apply BitVec.eq_of_toNat_eq
  rw [BitVec.toNat_ushiftRight, BitVec.toNat_shiftLeft, BitVec.toNat_shiftLeft]
  rw [Nat.shiftLeft_eq, Nat.shiftLeft_eq, Nat.shiftRight_eq_div_pow]
  have hp : d.toNat * 2 ^ (k + 1) < 2 ^ 32 := by
    have : d.toNat * 2 ^ (k + 1) < 2 ^ (31 - k) * 2 ^ (k + 1) := Nat.mul_lt_mul_of_pos_right hd (Nat.two_pow_pos _)
    rwa [← Nat.pow_add, show 31 - k + (k + 1) = 32 by omega] at this
  have hp2 : d.toNat * 2 ^ k < 2 ^ 32 := by
    refine Nat.lt_of_le_of_lt (Nat.mul_le_mul_left _ (Nat.pow_le_pow_right (by omega) (Nat.le_succ k))) hp
  rw [Nat.mod_eq_of_lt hp, Nat.mod_eq_of_lt hp2, Nat.pow_succ, ← Nat.mul_assoc, Nat.pow_one, Nat.mul_div_cancel _ (by omega)]

theorem steps_shl4 (d : BitVec 32) (hd : d.toNat < 2 ^ 28) : steps 4 (d <<< 4) = d := by
  simp only [steps]
  rw [bitStep_shl d 3 (by omega) (by omega), bitStep_shl d 2 (by omega) (by omega), bitStep_shl d 1 (by omega) (by omega), bitStep_shl d 0 (by omega) (by omega)]
  simp

def tbl : List Nat := [0, 498536548, 997073096, 651767980, 1994146192, 1802195444, 1303535960, 1342533948, 3988292384, 4027552580, 3604390888, 3412177804, 2607071920, 2262029012, 2685067896, 3183342108]
def nib (c : BitVec 32) : BitVec 32 := BitVec.ofNat 32 (tbl.getD (c.toNat % 16) 0) ^^^ (c >>> 4)

theorem tbl_steps : ∀ i, i < 16 → steps 4 (BitVec.ofNat 32 i) = BitVec.ofNat 32 (tbl.getD i 0) := by decide
theorem tbl_lt (i : Nat) : tbl.getD i 0 < 2 ^ 32 := by
  by_cases h : i < 16
  · have : ∀ i, i < 16 → tbl.getD i 0 < 2 ^ 32 := by decide
    exact this i h
  · rw [List.getD_eq_getElem?_getD, List.getElem?_eq_none (by simp [tbl]; omega)]; decide

theorem split4 (c : BitVec 32) : c = BitVec.ofNat 32 (c.toNat % 16) ^^^ ((c >>> 4) <<< 4) := by
  apply BitVec.eq_of_getLsbD_eq
  intro i hi
  rw [BitVec.getLsbD_xor, BitVec.getLsbD_shiftLeft, BitVec.getLsbD_ushiftRight, BitVec.getLsbD_ofNat]
  rw [show (16 : Nat) = 2 ^ 4 from rfl, Nat.testBit_mod_two_pow]
  by_cases h : i < 4
  · simp [h, hi, BitVec.getLsbD]
  · simp [h, hi, show 4 + (i - 4) = i by omega]

theorem nib_steps (c : BitVec 32) : nib c = steps 4 c := by
  have h : steps 4 c = steps 4 (BitVec.ofNat 32 (c.toNat % 16) ^^^ ((c >>> 4) <<< 4)) := congrArg _ (split4 c)
  rw [h, steps_xor, tbl_steps _ (Nat.mod_lt _ (by decide)), steps_shl4 _ (by
    rw [BitVec.toNat_ushiftRight, Nat.shiftRight_eq_div_pow]
    have := c.isLt
    omega)]
  rfl

theorem byteStep_nib (c : BitVec 32) (b : UInt8) : byteStep c b = nib (nib (c ^^^ BitVec.ofNat 32 b.toNat)) := by
  rw [nib_steps, nib_steps, ← steps_add]; rfl

theorem reg_append (c : BitVec 32) (L M : List UInt8) : reg c (L ++ M) = reg (reg c L) M := by simp [reg, List.foldl_append]
theorem reg_snoc (c : BitVec 32) (L : List UInt8) (b : UInt8) : reg c (L ++ [b]) = byteStep (reg c L) b := by rw [reg_append]; rfl

theorem xor3_swap (a b c d e f : BitVec 32) : (a ^^^ b ^^^ c) ^^^ (d ^^^ e ^^^ f) = (a ^^^ d) ^^^ (b ^^^ e) ^^^ (c ^^^ f) := by ac_rfl
theorem ofNat_xor_byte (a b c : UInt8) : BitVec.ofNat 32 (a ^^^ b ^^^ c).toNat = BitVec.ofNat 32 a.toNat ^^^ BitVec.ofNat 32 b.toNat ^^^ BitVec.ofNat 32 c.toNat := by
  apply BitVec.eq_of_toNat_eq
  rw [BitVec.toNat_xor, BitVec.toNat_xor]
  simp only [BitVec.toNat_ofNat, UInt8.toNat_xor]
  have ha := a.toNat_lt
  have hb := b.toNat_lt
  have hc := c.toNat_lt
  have : a.toNat ^^^ b.toNat ^^^ c.toNat < 2 ^ 8 := Nat.xor_lt_two_pow (Nat.xor_lt_two_pow ha hb) hc
  rw [Nat.mod_eq_of_lt (by omega), Nat.mod_eq_of_lt (by omega), Nat.mod_eq_of_lt (by omega), Nat.mod_eq_of_lt (by omega)]
theorem byteStep_xor3 (x y z : BitVec 32) (a b c : UInt8) : byteStep (x ^^^ y ^^^ z) (a ^^^ b ^^^ c) = byteStep x a ^^^ byteStep y b ^^^ byteStep z c := by
  unfold byteStep
  rw [ofNat_xor_byte, xor3_swap, steps_xor, steps_xor]

def xor3 : List UInt8 → List UInt8 → List UInt8 → List UInt8
  | a :: l, b :: m, c :: n => (a ^^^ b ^^^ c) :: xor3 l m n
  | _, _, _ => []
theorem xor3_len : ∀ (l m n : List UInt8), m.length = l.length → n.length = l.length → (xor3 l m n).length = l.length
  | [], _, _, _, _ => by simp [xor3]
  | a :: l, [], _, h, _ => by simp at h
  | a :: l, b :: m, [], _, h => by simp at h
  | a :: l, b :: m, c :: n, h1, h2 => by
    simp only [xor3, List.length_cons]
    rw [xor3_len l m n (by simpa using h1) (by simpa using h2)]
theorem xor3_snoc : ∀ (k : Nat) (l m n : List UInt8) (a b c : UInt8), l[k]? = some a → m[k]? = some b → n[k]? = some c →
    xor3 (l.take (k + 1)) (m.take (k + 1)) (n.take (k + 1)) = xor3 (l.take k) (m.take k) (n.take k) ++ [a ^^^ b ^^^ c]
  | 0, x :: l, y :: m, z :: n, a, b, c, h1, h2, h3 => by
    simp at h1 h2 h3; subst h1; subst h2; subst h3; simp [xor3]
  | k + 1, x :: l, y :: m, z :: n, a, b, c, h1, h2, h3 => by
    have := xor3_snoc k l m n a b c (by simpa using h1) (by simpa using h2) (by simpa using h3)
    simp only [List.take_succ_cons, xor3, List.cons_append]
    rw [this]
  | k, [], _, _, a, b, c, h1, _, _ => by simp at h1
  | k, _ :: _, [], _, a, b, c, _, h1, _ => by simp at h1
  | k, _ :: _, _ :: _, [], a, b, c, _, _, h1 => by simp at h1

theorem reg_xor3 : ∀ (l m n : List UInt8) (x y z : BitVec 32), m.length = l.length → n.length = l.length → reg (x ^^^ y ^^^ z) (xor3 l m n) = reg x l ^^^ reg y m ^^^ reg z n
  | [], [], [], _, _, _, _, _ => rfl
  | [], _ :: _, _, _, _, _, h, _ => by simp at h
  | [], [], _ :: _, _, _, _, _, h => by simp at h
  | _ :: _, [], _, _, _, _, h, _ => by simp at h
  | _ :: _, _ :: _, [], _, _, _, _, h => by simp at h
  | a :: l, b :: m, c :: n, x, y, z, h1, h2 => by
    have ih := reg_xor3 l m n (byteStep x a) (byteStep y b) (byteStep z c) (by simpa using h1) (by simpa using h2)
    simp only [xor3, reg, List.foldl_cons] at ih ⊢
    rw [byteStep_xor3]
    exact ih
/-- Three strings of one length laid over one another. -/
theorem crc_xor3 (l m n : List UInt8) (h1 : m.length = l.length) (h2 : n.length = l.length) : crc (xor3 l m n) = crc l ^^^ crc m ^^^ crc n := by
  have h := reg_xor3 l m n (~~~ 0#32) (~~~ 0#32) (~~~ 0#32) h1 h2
  rw [show (~~~ 0#32 ^^^ ~~~ 0#32 ^^^ ~~~ 0#32 : BitVec 32) = ~~~ 0#32 by decide] at h
  unfold crc
  rw [h]
  apply BitVec.eq_of_getLsbD_eq
  intro i hi
  simp only [BitVec.getLsbD_not, BitVec.getLsbD_xor, hi, decide_true, Bool.true_and]
  cases (reg (~~~ 0#32) l).getLsbD i <;> cases (reg (~~~ 0#32) m).getLsbD i <;> cases (reg (~~~ 0#32) n).getLsbD i <;> rfl
theorem crc_123 : crc [49, 50, 51, 52, 53, 54, 55, 56, 57] = 3421780262#32 := by decide +kernel

end Go.Proofs.YtbobigaifkffoaaDoor
