/-
  THE WALKS of the document's own answer (annalsref1): ReadUint, ReadInt, ReadBytes.
-/
import Derived.Test.YtbobigaifkffoaaDoorL15
import Derived.Test.YtbobigaifkffoaaDoorP7
namespace Go.Proofs.YtbobigaifkffoaaDoor
open Go.RowKit
set_option linter.unusedVariables false
set_option linter.unusedSimpArgs false

def Res3_ (x p er : Nat) (w : World) (e : Ending) (w' : World) : Prop := e = .returned (.tuple #[.int .u64 (x : Int), .int .i64 (p : Int), .int .i64 (er : Int)]) ∧ w = w'

set_option maxRecDepth 100000 in
set_option maxHeartbeats 1600000 in
/-- 'annalsref1.ReadUint'. -/
theorem dReadUint_e (v : Value) (L : List UInt8) (pos : Int) (x p er : Nat) (w : World) (h : Rd w v L) (hp : -9223372036854775808 ≤ pos) (hX : rdU L pos = (x, p, er)) :
    Calls Tryd.prog 60 #[v, .int .i64 pos] w (Res3_ x p er w) := by
  obtain ⟨A, cap, rfl, hc, hn, hl, hr⟩ := h
  have HR := Hd.mk hr
  have HN := Hd.mk hn
  clear hr hn
  by_cases h1 : pos < 0
  · rw [rdU_neg h1] at hX
    simp only [Prod.mk.injEq] at hX
    obtain ⟨rfl, rfl, rfl⟩ := hX
    go_enter Tryd.func60, Tryd.ntmps60
    go_wp2
    go_ret3
    exact ⟨rfl, rfl⟩
  · by_cases h2 : (L.length : Int) < pos
    · rw [rdU_far h2] at hX
      simp only [Prod.mk.injEq] at hX
      obtain ⟨rfl, rfl, rfl⟩ := hX
      go_enter Tryd.func60, Tryd.ntmps60
      go_wp2
      go_ret3
      exact ⟨rfl, rfl⟩
    · obtain ⟨a, rfl⟩ : ∃ a : Nat, pos = a := ⟨pos.toNat, by omega⟩
      have ha : a ≤ L.length := by omega
      have HX := Hd.mk hX
      clear hp h1 hX
      go_enter Tryd.func60, Tryd.ntmps60
      go_wp2
      go_loop [7] (fun i => ∃ k : Nat, i = .int .i64 k ∧ k ≤ 9 ∧ a + k ≤ L.length ∧ Hd (∀ j, j < k → ∃ c, (L.drop a)[j]? = some c ∧ 128 ≤ c.toNat)) (fun i => 9 - (intOf i).toNat)
      case atStart => exact ⟨0, rfl, by omega, by omega, ⟨fun j hj => absurd hj (Nat.not_lt_zero _)⟩⟩
      case round =>
        obtain ⟨k, rfl, hk, hak, HH⟩ := hrel
        by_cases c1 : a + k < L.length
        · obtain ⟨ad, c, rfl, hcell, HC⟩ := HR.out.at_ (a + k) c1
          have hc256 := c.toNat_lt
          have HD : Hd ((L.drop a)[k]? = some c) := ⟨by rw [List.getElem?_drop]; exact HC.out⟩
          have k1 : (k : Int) < (L.length : Int) - (a : Int) := by omega
          have hcell2 := hcell
          by_cases c2 : k < 9 ∧ 128 ≤ c.toNat
          · obtain ⟨c3, c4⟩ := c2
            go_wp2
            go_round
            case rel => exact ⟨k + 1, by go_num, by omega, by omega, ⟨fun j hj => by
                by_cases hjk : j < k
                · exact HH.out j hjk
                · obtain rfl : j = k := by omega
                  exact ⟨c, HD.out, c4⟩⟩⟩
            case measure => simp [intOf]; omega
          · have hq : ((k : Int) == (L.length : Int) - (a : Int)) = false := beq_f (by omega)
            by_cases c5 : k = 9 ∧ 1 < c.toNat
            · have hE := rdU_err ha (ru_wide_ c5.1 HH.out HD.out c5.2)
              have hX := HX.out.symm.trans hE
              simp only [Prod.mk.injEq] at hX
              obtain ⟨rfl, rfl, rfl⟩ := hX
              obtain ⟨c5a, c6⟩ := c5
              have c7 : 9 ≤ k := by omega
              have e9 : ((k : Int) == 9) = true := beq_t (by omega)
              clear hE c2 c5a
              go_wp2
              go_ret3
              exact ⟨rfl, rfl⟩
            · by_cases c6 : c.toNat = 0 ∧ 0 < k
              · have hE := rdU_err ha (ru_min_ hk HH.out HD.out c6.1 c6.2)
                have hX := HX.out.symm.trans hE
                simp only [Prod.mk.injEq] at hX
                obtain ⟨rfl, rfl, rfl⟩ := hX
                have c7 : c.toNat ≤ 0 := by omega
                have c8 : 0 < k := c6.2
                have z0 : ((c.toNat : Int) == 0) = true := beq_t (by omega)
                clear hE c2 c5 c6
                by_cases c9 : k < 9
                · have e9 : ((k : Int) == 9) = false := beq_f (by omega)
                  go_wp2
                  go_ret3
                  exact ⟨rfl, rfl⟩
                · have e9 : ((k : Int) == 9) = true := beq_t (by omega)
                  go_wp2
                  go_ret3
                  exact ⟨rfl, rfl⟩
              · have hc128 : c.toNat < 128 := by omega
                have hE := rdU_ok ha (ru_last_ hk HH.out HD.out (by omega) hc128 c6)
                have hX := HX.out.symm.trans hE
                obtain ⟨M, hM⟩ : ∃ M, (L.drop a).take (k + 1) = M := ⟨_, rfl⟩
                rw [hM] at hX
                simp only [Prod.mk.injEq] at hX
                obtain ⟨hx, rfl, rfl⟩ := hX
                have hx64 : x < 18446744073709551616 := by
                  have h64 := (rdU_spec HX.out)
                  obtain ⟨_, _, _, _, _, _, _, _, h64, _⟩ := h64
                  exact h64.out
                have HMl : Hd (M.length = k + 1) := ⟨by rw [← hM, List.length_take, List.length_drop]; omega⟩
                have HMg : Hd (∀ j c', j ≤ k → L[a + j]? = some c' → M[j]? = some c') := ⟨fun j c' hj hc' => by
                  rw [← hM, List.getElem?_take, if_pos (by omega), List.getElem?_drop]; exact hc'⟩
                have Hx := Hd.mk hx
                have Hx64 := Hd.mk hx64
                have hor : k < 9 ∨ (9 ≤ k ∧ c.toNat ≤ 1) := by omega
                have hor2 : k ≤ 0 ∨ (0 < k ∧ 0 < c.toNat) := by omega
                clear hE c2 c5 c6 hM hx hx64
                rcases hor with c7 | ⟨c7, c8⟩
                case' inr =>
                  have e9 : ((k : Int) == 9) = true := beq_t (by omega)
                  have c11 : 0 < k := by omega
                  have c10 : ((c.toNat : Int) == 0) = false := beq_f (by omega)
                  clear hor2
                  go_wp2
                case' inl =>
                  have e9 : ((k : Int) == 9) = false := beq_f (by omega)
                  by_cases k0 : k ≤ 0
                  case' pos =>
                    clear hor2
                    go_wp2
                  case' neg =>
                    have c11 : 0 < k := by omega
                    have c10 : ((c.toNat : Int) == 0) = false := beq_f (by omega)
                    clear hor2
                    go_wp2
                all_goals
                  go_loop [9, 10] (fun x i => ∃ (vn t : Nat), x = .int .u64 vn ∧ i = .int .i64 ((t : Int) - 1) ∧ t ≤ k + 1 ∧ Hd (vn = bv (M.drop t))) (fun _ i => (intOf i + 1).toNat)
                  case atStart => exact ⟨0, k + 1, rfl, by go_num, by omega, ⟨by rw [List.drop_eq_nil_of_le (by have := HMl.out; omega)]; rfl⟩⟩
                  case round =>
                    obtain ⟨vn, t, rfl, rfl, ht, HV⟩ := hrel
                    by_cases t0 : t = 0
                    · have t1 : ((t : Int) - 1) = -1 := by omega
                      have hv : x = vn := by rw [Hx.out, HV.out, t0]; rfl
                      subst hv
                      rw [t1]
                      clear t0
                      go_wp2
                      go_ret3
                      exact ⟨rfl, rfl⟩
                    · obtain ⟨s, rfl⟩ : ∃ s, t = s + 1 := ⟨t - 1, by omega⟩
                      have t1 : (((s + 1 : Nat) : Int) - 1) = s := by omega
                      rw [t1]
                      obtain ⟨ad2, d, e3, hcell3, HC3⟩ := HR.out.at_ (a + s) (by omega)
                      injection e3 with e3
                      subst e3
                      have hd := bv_drop (HMg.out s d (by omega) HC3.out)
                      have hle := bv_drop_le M s
                      rw [← Hx.out, hd, ← HV.out] at hle
                      have hx64 := Hx64.out
                      have hd256 := d.toNat_lt
                      obtain ⟨y, hy⟩ : ∃ y, d.toNat % 128 = y := ⟨_, rfl⟩
                      rw [hy] at hd hle
                      have e4 : ((d.toNat : Int) % 128) = (y : Int) := by omega
                      have hb1 : (vn : Int) * 128 + (y : Int) < 18446744073709551616 := by omega
                      have hb2 : (vn : Int) * 128 < 18446744073709551616 := by omega
                      have HD3 := Hd.mk hd
                      have hy128 : y < 128 := by omega
                      have hsk : a + s < L.length := by omega
                      clear hd hle hy t0 hx64
                      go_wp2
                      go_round
                      case rel => exact ⟨vn * 128 + y, s, (by first | rfl | go_num), (by first | rfl | go_num), by omega, ⟨by rw [HD3.out, HV.out]; omega⟩⟩
                      case measure => first | (simp [intOf]; done) | (simp [intOf]; omega)
        · have hE := rdU_err ha (ru_short_ hk HH.out (by rw [List.length_drop]; omega))
          have hX := HX.out.symm.trans hE
          simp only [Prod.mk.injEq] at hX
          obtain ⟨rfl, rfl, rfl⟩ := hX
          have hq : ((k : Int) == (L.length : Int) - (a : Int)) = true := beq_t (by omega)
          have k2 : ¬ (k : Int) < (L.length : Int) - (a : Int) := by omega
          clear hE
          by_cases c9 : k < 9
          · go_wp2
            go_ret3
            exact ⟨rfl, rfl⟩
          · go_wp2
            go_ret3
            exact ⟨rfl, rfl⟩

end Go.Proofs.YtbobigaifkffoaaDoor
