/-
  THE WALKS of the law's helpers: started, few, roomy.
-/
import Derived.Test.YtbobigaifkffoaaDoorL20
namespace Go.Proofs.YtbobigaifkffoaaDoor
open Go.RowKit
set_option linter.unusedVariables false
set_option linter.unusedSimpArgs false

/-- 'started'. -/
theorem started_any (w : World) : Calls Tryd.prog 32 #[] w fun e w' => e = .returned (.bool true) ∧ Below w.heap.size w w' := by
  obtain ⟨U, hU⟩ : ∃ U, uenc 300 = U := ⟨_, rfl⟩
  have C1 := Hd.mk fun W => uint_e 300 U W (Is64.mk (by omega)) hU
  have C2 := Hd.mk fun W => dUint_e 300 U W (Is64.mk (by omega)) hU
  clear hU
  go_enter Tryd.func32, Tryd.ntmps32
  go_wp2_with fail
  refine (C1.out _).mono ?_
  rintro e w1 ⟨A1, c1, rfl, ho, hb⟩
  have R1 := Hd.mk ho.rd
  have B1 := Hd.mk hb
  clear ho hb C1
  go_wp2_with fail
  refine (C2.out _).mono ?_
  rintro e w2 ⟨A2, c2, rfl, ho, hb⟩
  have R2 := Hd.mk ho.rd
  have R12 := Hd.mk (R1.out.below hb)
  have B2 := Hd.mk (bel_call0 B1.out hb)
  clear ho hb C2 R1
  go_wp2_with fail
  refine (same_any _ _ U U true _ R12.out R2.out (by simp)).mono ?_
  rintro e w3 ⟨rfl, hb⟩
  have B3 := Hd.mk (bel_call0 B2.out hb)
  clear hb
  go_wp2
  go_ret
  exact ⟨rfl, B3.out⟩

theorem flat_take (Ls : List (List UInt8)) (k : Nat) : (Ls.take k).flatten.length ≤ Ls.flatten.length := flat_le Ls k

set_option maxRecDepth 100000 in
/-- 'few': no more than 4 MB together? -/
theorem few_any (v : Value) (Ls : List (List UInt8)) (w : World) (h : RdL w v Ls) :
    Calls Tryd.prog 64 #[v] w fun e w' => e = .returned (.bool (decide (Ls.flatten.length + Ls.length ≤ 4194304))) ∧ w = w' := by
  obtain ⟨A, cap, rfl, hl⟩ := h.form
  have HR := Hd.mk h
  clear h
  obtain ⟨r, hr⟩ : ∃ r, decide (Ls.flatten.length + Ls.length ≤ 4194304) = r := ⟨_, rfl⟩
  rw [hr]
  have Hr := Hd.mk hr
  clear hr
  go_enter Tryd.func64, Tryd.ntmps64
  go_wp2
  go_loop [3, 4] (fun n i => ∃ (m k : Nat), n = .int .i64 m ∧ i = .int .i64 k ∧ k ≤ Ls.length ∧ m ≤ 4194304 ∧ Hd (m = (Ls.take k).flatten.length + k)) (fun _ i => Ls.length - (intOf i).toNat)
  case atStart => exact ⟨0, 0, rfl, rfl, by omega, by omega, ⟨by simp⟩⟩
  case round =>
    obtain ⟨m, k, rfl, rfl, hk, hm, HE⟩ := hrel
    by_cases hlt : k < Ls.length
    · obtain ⟨ad, A1, c1, L1, rfl, hcell, hl1, HL1, HR1⟩ := HR.out.at_ k hlt
      have HF := Hd.mk (flat_snoc Ls k L1 HL1.out)
      have hll := HR1.out.slice.2.2.2.1
      by_cases hbig : 4194304 < m + L1.length + 1
      · obtain rfl : r = false := by
          rw [← Hr.out]
          refine decide_eq_false ?_
          have h1 := flat_take Ls (k + 1)
          rw [HF.out, List.length_append] at h1
          have := HE.out
          omega
        have d1 : decide ((4194304 : Int) < (m : Int) + (L1.length : Int) + 1) = true := dec_t (by omega)
        go_wp2
        go_ret
        exact ⟨rfl, rfl⟩
      · have d1 : decide ((4194304 : Int) < (m : Int) + (L1.length : Int) + 1) = false := dec_f (by omega)
        go_wp2
        go_round
        case rel => exact ⟨m + L1.length + 1, k + 1, by go_num, by go_num, by omega, by omega, ⟨by rw [HF.out, List.length_append]; have := HE.out; omega⟩⟩
        case measure => simp [intOf]; omega
    · obtain rfl : r = true := by
        rw [← Hr.out]
        refine decide_eq_true ?_
        have := HE.out
        rw [List.take_of_length_le (by omega)] at this
        omega
      go_wp2
      go_ret
      exact ⟨rfl, rfl⟩

/-- The marks behind the bytes. -/
def room (n : Nat) : List UInt8 := (List.range n).map fun i => UInt8.ofNat (201 + i % 5)
theorem room_succ (n : Nat) : room (n + 1) = room n ++ [UInt8.ofNat (201 + n % 5)] := by simp [room, List.range_succ]
theorem room_len (n : Nat) : (room n).length = n := by simp [room]

set_option maxRecDepth 100000 in
set_option maxHeartbeats 600000 in
/-- 'roomy'. -/
theorem roomy_e (v : Value) (L X : List UInt8) (w : World) (h : Rd w v L) (hl : L.length ≤ 140737488355328) (hX : L ++ room 75 = X) :
    Calls Tryd.prog 65 #[v] w fun e w' => ∃ A c, e = .returned (.slice A X.length c) ∧ Own w.heap.size w' (.slice A X.length c) X ∧ Below w.heap.size w w' := by
  obtain ⟨A, cap, rfl⟩ := h.form
  have C := Hd.mk (dPart_e _ L L 0 L.length w h (by omega) (Nat.le_refl _) (by simp))
  have HX := Hd.mk hX
  clear h hX
  go_enter Tryd.func65, Tryd.ntmps65
  go_wp2_with fail
  refine C.out.mono ?_
  rintro e w1 ⟨A1, c1, rfl, ho, hb⟩
  have O1 := Hd.mk ho
  have B1 := Hd.mk hb
  clear ho hb C
  go_wp2_with fail
  go_loopw [3, 4] (fun b i wr => ∃ k : Nat, i = .int .i64 k ∧ k ≤ 75 ∧ Hd (Own w.heap.size wr b (L ++ room k)) ∧ Hd (Below w.heap.size w wr)) (fun _ i _ => 75 - (intOf i).toNat)
  case atStart => exact ⟨0, rfl, by omega, ⟨by simpa [room] using O1.out⟩, B1⟩
  case round =>
    clear O1 B1
    obtain ⟨k, rfl, hk, HO, HB⟩ := hrel
    by_cases hlt : k < 75
    · have hle : ∀ x : UInt8, (L ++ room k).length + [x].length ≤ 140737555464192 := by
        intro x
        rw [List.length_append, room_len]
        simp; omega
      have HL := Hd.mk hle
      obtain ⟨g, hg⟩ : ∃ g, 201 + k % 5 = g := ⟨_, rfl⟩
      have g1 : g < 256 := by omega
      have e1 : ((201 : Int) + (Int.tmod (k : Int) 5)) = (g : Int) := by rw [Int.tmod_eq_emod_of_nonneg (by omega)]; omega
      have e2 : ((201 : Int) + ((k : Int) % 5)) = (g : Int) := by omega
      have HG := Hd.mk hg
      clear hle hg
      go_wp2_with (at_builtin; refine wpList_app rfl _ _ rfl w.heap.size _ _ _ [UInt8.ofNat g] rfl rfl (HO.out.alloc _) (Rd.new1 _ _ _ (by simp; omega)) (HL.out _) (hb_alloc HB.out (Nat.le_refl _) _) ?_; intro u1 w2 hown hgr; have HO2 := Hd.mk hown; have HB2 : Hd (Below w.heap.size w w2) := ⟨bel_app HB.out HO.out hgr⟩; clear hown hgr)
      go_roundw
      case rel => exact ⟨k + 1, by go_num, by omega, ⟨by rw [room_succ, HG.out, ← List.append_assoc]; exact HO2.out⟩, HB2⟩
      case measure => simp [intOf]; omega
    · have hke : L ++ room k = X := by rw [← HX.out, show k = 75 by omega]
      rw [hke] at HO
      obtain ⟨A2, c2, rfl⟩ := HO.out.rd.form
      clear hke
      go_wp2
      go_ret
      exact ⟨A2, c2, rfl, HO.out, HB.out⟩

end Go.Proofs.YtbobigaifkffoaaDoor
