/-
  THE WALKS of the law's helpers: filledBy, halves.
-/
import Derived.Test.YtbobigaifkffoaaDoorL29
import Derived.Test.YtbobigaifkffoaaDoorL12
import Derived.StillTailTactics
namespace Go.Proofs.YtbobigaifkffoaaDoor
open Go.RowKit
set_option linter.unusedVariables false
set_option linter.unusedSimpArgs false

/-- The first n bytes of L, zeros behind them. -/
def fill (n : Nat) (L : List UInt8) : List UInt8 := (List.range n).map fun i => L.getD i 0
theorem fill_len (n : Nat) (L : List UInt8) : (fill n L).length = n := by simp [fill]
theorem fill_succ (n : Nat) (L : List UInt8) : fill (n + 1) L = fill n L ++ [L.getD n 0] := by simp [fill, List.range_succ]
theorem fill_set (k : Nat) (L Z : List UInt8) (hk : k < Z.length) (x : UInt8) : (fill k L ++ Z.drop k).set k x = fill k L ++ x :: Z.drop (k + 1) := by
  rw [List.set_append_right _ _ (by rw [fill_len]; exact Nat.le_refl _), fill_len, Nat.sub_self, List.drop_eq_getElem_cons hk]
  rfl
theorem fill_set2 (k : Nat) (L Z : List UInt8) (hk : k < Z.length) (x y : UInt8) : (fill k L ++ x :: Z.drop (k + 1)).set k y = fill k L ++ y :: Z.drop (k + 1) := by
  rw [List.set_append_right _ _ (by rw [fill_len]; exact Nat.le_refl _), fill_len, Nat.sub_self]
  rfl
theorem Own.block {B : Nat} {w : World} {g n c : Nat} {L : List UInt8} (h : Own B w (.slice (some ⟨g, 0, none⟩) n c) L) : B ≤ g ∧ n = L.length := by
  refine ⟨?_, h.rd.slice.1⟩
  rcases h.2.2 with ⟨e, _⟩ | ⟨g', c', cur, e, hB, _⟩
  · cases e
  · injection e with e
    injection e with e
    injection e with e
    omega

set_option maxRecDepth 100000 in
set_option maxHeartbeats 1600000 in
/-- 'filledBy': the buffer is the call's own; what is laid into it lies elsewhere. -/
theorem filledBy_any (base g n c : Nat) (Z L : List UInt8) (vb : Value) (w : World) (ho : Own base w (.slice (some ⟨g, 0, none⟩) n c) Z) (hr : ∀ W : World, (∀ j, j ≠ g → W.heap[j]? = w.heap[j]?) → Rd W vb L) :
    Calls Tryd.prog 44 #[.slice (some ⟨g, 0, none⟩) n c, vb] w fun e w' => ∃ v, e = .returned v ∧ Own base w' (.slice (some ⟨g, 0, none⟩) n c) (fill n L) ∧ (∀ j, j ≠ g → w'.heap[j]? = w.heap[j]?) ∧ Below base w w' := by
  obtain ⟨A, cap, rfl⟩ := (hr w (fun _ _ => rfl)).form
  obtain ⟨hbg, hn⟩ := ho.block
  have hn63 : n ≤ 140737555464192 := by have := ho.1; omega
  have HR := Hd.mk hr
  have HZ := Hd.mk hn
  have HG := Hd.mk hbg
  have O0 := Hd.mk ho
  clear hr ho hn hbg
  go_enter Tryd.func44, Tryd.ntmps44
  go_wp2_with fail
  go_loopw [4] (fun i wr => ∃ k : Nat, i = .int .i64 k ∧ k ≤ n ∧ Hd (Own base wr (.slice (some ⟨g, 0, none⟩) n c) (fill k L ++ Z.drop k)) ∧ Hd (∀ j, j ≠ g → wr.heap[j]? = w.heap[j]?) ∧ Hd (Below base w wr)) (fun i _ => n - (intOf i).toNat)
  case atStart => exact ⟨0, rfl, by omega, ⟨by simpa [fill] using O0.out⟩, ⟨fun _ _ => rfl⟩, ⟨Below.refl _ _⟩⟩
  case round =>
    clear O0
    obtain ⟨k, rfl, hk, HO, HS, HB⟩ := hrel
    by_cases hlt : k < n
    · have hkl : k < (fill k L ++ Z.drop k).length := by
        have := HO.out.rd.slice.1
        omega
      have hkz : k < Z.length := by have := HZ.out; omega
      obtain ⟨hcell, hfr⟩ := HO.out.at_ k hkl
      have O1 := HO.out.stored k 0
      rw [fill_set k L Z hkz] at O1
      have O1' := Hd.mk O1
      have B1 := Hd.mk (HB.out.setCell (p := ⟨g, k, none⟩) HG.out (.int .u8 0))
      have S1 : Hd (∀ j, j ≠ g → (wr.setCell ⟨g, k, none⟩ (.int .u8 0)).heap[j]? = w.heap[j]?) := ⟨fun j hj => (Below.heap_setCell wr _ _ j hj).trans (HS.out j hj)⟩
      clear O1 hkl
      by_cases hl : k < L.length
      · obtain ⟨ad, c1, rfl, hc1, HC1⟩ := (HR.out _ S1.out).slice.2.2.2.2.at_ k hl
        have O2 := O1'.out.stored k c1
        rw [fill_set2 k L Z hkz] at O2
        have O2' := Hd.mk O2
        have B2 := Hd.mk (B1.out.setCell (p := ⟨g, k, none⟩) HG.out (.int .u8 (c1.toNat : Int)))
        have S2 : Hd (∀ j, j ≠ g → ((wr.setCell ⟨g, k, none⟩ (.int .u8 0)).setCell ⟨g, k, none⟩ (.int .u8 (c1.toNat : Int))).heap[j]? = w.heap[j]?) := ⟨fun j hj => (Below.heap_setCell _ _ _ j hj).trans (S1.out j hj)⟩
        have hfs : Hd (fill (k + 1) L ++ Z.drop (k + 1) = fill k L ++ c1 :: Z.drop (k + 1)) := ⟨by
          rw [fill_succ, List.getD_eq_getElem?_getD, HC1.out]; simp⟩
        clear O2 hkz
        go_wp2_with fail
        go_roundw
        case rel => exact ⟨k + 1, by go_num, by omega, ⟨by rw [hfs.out]; exact O2'.out⟩, S2, B2⟩
        case measure => simp [intOf]; omega
      · have hfs : Hd (fill (k + 1) L ++ Z.drop (k + 1) = fill k L ++ 0 :: Z.drop (k + 1)) := ⟨by
          rw [fill_succ, List.getD_eq_getElem?_getD, List.getElem?_eq_none (by omega)]; simp⟩
        clear hkz
        go_wp2_with fail
        go_roundw
        case rel => exact ⟨k + 1, by go_num, by omega, ⟨by rw [hfs.out]; exact O1'.out⟩, S1, B1⟩
        case measure => simp [intOf]; omega
    · have hke : fill k L ++ Z.drop k = fill n L := by
        have := HZ.out
        rw [show k = n by omega, List.drop_of_length_le (by omega), List.append_nil]
      rw [hke] at HO
      clear hke
      go_wp2
      go_end0
      exact ⟨_, rfl, HO.out, HS.out, HB.out⟩

theorem cut_from (t e : TypeId) (kl : IntKind) {i : TypeInfo} {P : Program} (ht : P.underlying t = some (.slice e)) (hi : P.info? e = some i) (size : Nat) (hsz : i.size = size) (A : Option Addr) (n c : Nat) (lo : Int) (h0 : 0 ≤ lo) (h1 : lo ≤ n) :
    ∀ W : World, (Instr.slice t (.slice A n c) (some (.int kl lo)) none none).run P W = .ok (.slice (if c = lo.toNat then A else A.map (·.add (lo.toNat * size))) (n - lo.toNat) (c - lo.toNat)) W := by
  intro W
  have hel : P.elem t = e := by simp [Program.elem, ht]
  have hu : P.underlying t = some (.slice (P.elem t)) := by rw [hel]; exact ht
  rw [run_slice_l W t A n c hu kl lo h0 h1, hel]
  simp [sizeOf, typeInfo, hi, hsz, sliced, Result.andThen]

set_option maxRecDepth 100000 in
set_option maxHeartbeats 1000000 in
/-- 'halves': a buffer as two parts. -/
theorem halves_any (A : Option Addr) (n c : Nat) (L : List UInt8) (w : World) (h : Rd w (.slice A n c) L) :
    Calls Tryd.prog 50 #[.slice A n c] w fun e w' => ∃ A' c', e = .returned (.slice A' 2 c') ∧ RdL w' (.slice A' 2 c') [L.take (L.length / 2), L.drop (L.length / 2)] ∧ Below w.heap.size w w' := by
  obtain ⟨rfl, hc, hn, hl, hr⟩ := h.slice
  obtain ⟨q, hq⟩ : ∃ q, L.length / 2 = q := ⟨_, rfl⟩
  have hq2 : q ≤ L.length := by omega
  obtain ⟨i0', hi0', _, hz1', _⟩ := info_parts info5
  have cut1 := cut_to (P := Tryd.prog) 22 5 .i64 Tryd.underlying22 hi0' A L.length c (q : Int) (by omega) (by omega) hc
  have cut2 := cut_from (P := Tryd.prog) 22 5 .i64 Tryd.underlying22 hi0' 1 hz1' A L.length c (q : Int) (by omega) (by omega)
  rw [show ((q : Int)).toNat = q by omega] at cut1 cut2
  obtain ⟨A2, hA2⟩ : ∃ x, (if c = q then A else A.map (·.add (q * 1))) = x := ⟨_, rfl⟩
  have R1 : Hd (Rd w (.slice A q c) (L.take q)) := ⟨by
    have := h.pre (M := L.take q) (N := L.drop q) (List.take_append_drop q L)
    rwa [List.length_take, Nat.min_eq_left hq2] at this⟩
  have R2 : Hd (Rd w (.slice A2 (L.length - q) (c - q)) (L.drop q)) := ⟨by
    have := h.cut q L.length hq2 (Nat.le_refl _)
    rw [hA2] at this
    simpa [cutL] using this⟩
  rw [hA2] at cut2
  have e1 : Int.tdiv (L.length : Int) 2 = (q : Int) := by rw [Int.tdiv_eq_ediv_of_nonneg (by omega)]; omega
  have e2 : (L.length : Int) / 2 = (q : Int) := by omega
  rw [hq]
  clear h hi0' hz1' hr hA2 hq
  go_enter Tryd.func50, Tryd.ntmps50
  go_wp2_with fail
  go_region
  go_wp2
  go_ret
  have hb := (Below.refl w.heap.size w).alloc (Nat.le_refl _) (.cells #[.slice A q c, .slice A2 (L.length - q) (c - q)] 22)
  exact ⟨_, _, rfl, (RdL.new2 R1.out R2.out).below (Below.refl _ _).drew, hb.drew⟩

end Go.Proofs.YtbobigaifkffoaaDoor
