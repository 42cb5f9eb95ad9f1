import Derived.Test.YtbobigaifkffoaaDoorV
import Derived.Test.YtbobigaifkffoaaDoorP2
namespace Go.Proofs.YtbobigaifkffoaaDoor
open Go.RowKit
set_option linter.unusedVariables false
set_option linter.unusedSimpArgs false

theorem bits_or_shl (v k m : Nat) (hv : v < 128 ^ k) (hk : k ≤ 9) (hm : m * 128 ^ k < 18446744073709551616) :
    bits .or .u64 (v : Int) (IntKind.u64.wrap ((m : Int) * 2 ^ (7 * k))) = ((v + m * 128 ^ k : Nat) : Int) := by
  have hp : (128 : Nat) ^ k = 2 ^ (7 * k) := by rw [show (128 : Nat) = 2 ^ 7 from rfl, ← Nat.pow_mul]
  have hle : (128 : Nat) ^ k ≤ 128 ^ 9 := Nat.pow_le_pow_right (by omega) hk
  have hw : IntKind.u64.wrap ((m : Int) * 2 ^ (7 * k)) = ((m * 128 ^ k : Nat) : Int) := by
    rw [show (m : Int) * 2 ^ (7 * k) = ((m * 128 ^ k : Nat) : Int) by rw [hp]; simp, IntKind.wrap_u64]
    omega
  rw [hw]
  show IntKind.u64.wrap (((BitVec.ofInt 64 (v : Int) ||| BitVec.ofInt 64 ((m * 128 ^ k : Nat) : Int) : BitVec 64).toNat : Nat) : Int) = _
  rw [BitVec.ofInt_natCast, BitVec.ofInt_natCast, BitVec.toNat_or, BitVec.toNat_ofNat, BitVec.toNat_ofNat, Nat.mod_eq_of_lt (by omega), Nat.mod_eq_of_lt (by omega)]
  have h2 : v ||| m * 128 ^ k = v + m * 128 ^ k := by
    rw [hp] at hv ⊢
    have := Nat.two_pow_add_eq_or_of_lt hv m
    rw [Nat.or_comm, Nat.mul_comm m, ← this, Nat.add_comm]
  rw [h2]
  have h3 : v + m * 128 ^ k < 18446744073709551616 := by
    rw [← h2]
    exact Nat.or_lt_two_pow (n := 64) (by omega) (by omega)
  rw [IntKind.wrap_u64]
  omega

theorem bits_and127 (c : UInt8) : bits .and .u8 (c.toNat : Int) 127 = ((c.toNat % 128 : Nat) : Int) := by
  have h2 : BitVec.ofInt 8 127 = 127#8 := by decide
  show IntKind.u8.wrap (((BitVec.ofInt 8 (c.toNat : Int) &&& BitVec.ofInt 8 127 : BitVec 8).toNat : Nat) : Int) = _
  rw [BitVec.ofInt_natCast, h2, IntKind.wrap_u8, BitVec.toNat_and, show (127#8).toNat = 2 ^ 7 - 1 from rfl, Nat.and_two_pow_sub_one_eq_mod, BitVec.toNat_ofNat]
  have := c.toNat_lt
  omega

def Res3 (x : Nat × Nat × Nat) (w : World) (e : Ending) (w' : World) : Prop := e = .returned (.tuple #[.int .u64 x.1, .int .i64 x.2.1, .int .i64 x.2.2]) ∧ w = w'

set_option maxRecDepth 100000 in
set_option maxHeartbeats 1000000 in
/-- 'wire.ReadUint'. -/
theorem readUint_any (v : Value) (L : List UInt8) (pos : Int) (w : World) (h : Rd w v L) (hp : -9223372036854775808 ≤ pos) :
    Calls Tryd.prog 34 #[v, .int .i64 pos] w (Res3 (rdU L pos) w) := by
  obtain ⟨A, cap, rfl, hc, hn, hl, hr⟩ := h
  have HR := Hd.mk hr
  have HN := Hd.mk hn
  clear hr hn
  by_cases h1 : pos < 0
  · rw [rdU_neg h1]
    go_enter Tryd.func34, Tryd.ntmps34
    go_wp2
    go_ret3
    exact ⟨rfl, rfl⟩
  · by_cases h2 : (L.length : Int) < pos
    · rw [rdU_far h2]
      go_enter Tryd.func34, Tryd.ntmps34
      go_wp2
      go_ret3
      exact ⟨rfl, rfl⟩
    · obtain ⟨a, rfl⟩ : ∃ a : Nat, pos = a := ⟨pos.toNat, by omega⟩
      have ha : a ≤ L.length := by omega
      clear hp h1
      go_enter Tryd.func34, Tryd.ntmps34
      go_wp2
      go_loop [7, 8] (fun x i => ∃ (vn k : Nat), x = .int .u64 vn ∧ i = .int .i64 k ∧ k ≤ 9 ∧ a + k ≤ L.length ∧ Hd (vn < 128 ^ k) ∧ Hd (ru 0 0 (L.drop a) = ru k vn (L.drop (a + k)))) (fun _ i => 9 - (intOf i).toNat)
      case atStart => exact ⟨0, 0, rfl, rfl, by omega, by omega, ⟨by omega⟩, ⟨rfl⟩⟩
      case round =>
        obtain ⟨vn, k, rfl, rfl, hk, hak, HV, HE⟩ := hrel
        by_cases c1 : a + k < L.length
        · obtain ⟨ad, c, rfl, hcell, HC⟩ := HR.out.at_ (a + k) c1
          have hc256 := c.toNat_lt
          have e1 := bits_and127 c
          obtain ⟨m, hm⟩ : ∃ m, c.toNat % 128 = m := ⟨_, rfl⟩
          have hm1 : m < 128 := by omega
          rw [hm] at e1
          have HM := Hd.mk hm
          clear hm
          by_cases c2 : k = 9 ∧ 1 < c.toNat
          · obtain ⟨c3, c4⟩ := c2
            have hE := HE.out.trans (by rw [drop_at HC.out, ru_wide c3 c4])
            rw [rdU_err ha hE]
            have c5 : 9 ≤ k := by omega
            clear hE c3
            go_wp2
            go_ret3
            exact ⟨rfl, rfl⟩
          · have C2 := Hd.mk c2
            have hmk : m * 128 ^ k < 18446744073709551616 := by
              have hle : (128 : Nat) ^ k ≤ 128 ^ 9 := Nat.pow_le_pow_right (by omega) hk
              by_cases h9 : k = 9
              · subst h9
                have := HM.out
                omega
              · have hle : (128 : Nat) ^ k ≤ 128 ^ 8 := Nat.pow_le_pow_right (by omega) (by omega)
                have : m * 128 ^ k ≤ 127 * 128 ^ 8 := Nat.mul_le_mul (by omega) hle
                omega
            have e2 := bits_or_shl vn k m HV.out hk hmk
            clear hmk
            obtain ⟨q, hq⟩ : ∃ q : Nat, vn + m * 128 ^ k = q := ⟨_, rfl⟩
            rw [hq] at e2
            have HQ := Hd.mk hq
            clear hq
            have c2' : k < 9 ∨ (9 ≤ k ∧ c.toNat ≤ 1) := by omega
            by_cases c4 : 128 ≤ c.toNat
            · have c5 : k < 9 := by omega
              clear c2 c2'
              go_wp2
              go_round
              case rel => exact ⟨q, k + 1, rfl, by go_num, by omega, by omega, ⟨by
                  have h1 := HQ.out
                  have h2 := HV.out
                  have h3 : m * 128 ^ k ≤ 127 * 128 ^ k := Nat.mul_le_mul (by omega) (Nat.le_refl _)
                  rw [Nat.pow_succ]
                  omega⟩, ⟨by
                  rw [HE.out, drop_at HC.out, ru_more C2.out c4, HM.out, HQ.out]; rfl⟩⟩
              case measure => simp [intOf]; omega
            · have hmc : m = c.toNat := by have := HM.out; omega
              by_cases c6 : c.toNat = 0 ∧ 0 < k
              · obtain ⟨c7, c8⟩ := c6
                have hE := HE.out.trans (by rw [drop_at HC.out, ru_min c7 c8])
                rw [rdU_err ha hE]
                have hc0 : c.toNat ≤ 0 := by omega
                clear c7 hmc hE c2
                rcases c2' with c9 | ⟨c9, c10⟩
                all_goals
                  go_wp2
                  all_goals
                    go_ret3
                    exact ⟨rfl, rfl⟩
              · have hE := HE.out.trans (by rw [drop_at HC.out, ru_last C2.out (by omega) c6, ← hmc, HQ.out])
                rw [rdU_ok ha hE]
                clear hmc hE c2
                by_cases c7 : 0 < k
                · have c8 : 0 < c.toNat := by omega
                  clear c6
                  rcases c2' with c9 | ⟨c9, c10⟩
                  · go_wp2
                    go_ret3
                    exact ⟨rfl, rfl⟩
                  · have e9 : ((k : Int) == 9) = true := by simp; omega
                    go_wp2
                    go_ret3
                    exact ⟨rfl, rfl⟩
                · have c8 : k ≤ 0 := by omega
                  have c9 : k < 9 := by omega
                  clear c6 c7 c2'
                  by_cases c10 : c.toNat ≤ 0
                  all_goals
                    go_wp2
                    all_goals
                      go_ret3
                      exact ⟨rfl, rfl⟩
        · have hE := HE.out.trans (by rw [show a + k = L.length by omega, List.drop_length, ru_nil])
          rw [rdU_err ha hE]
          clear hE
          go_wp2
          go_ret3
          exact ⟨rfl, rfl⟩

end Go.Proofs.YtbobigaifkffoaaDoor
