/-
  How long the answers are; what stays where lists are filled.
-/
import Derived.Test.YtbobigaifkffoaaDoorL37
namespace Go.Proofs.YtbobigaifkffoaaDoor
open Go.RowKit
set_option linter.unusedVariables false
set_option linter.unusedSimpArgs false

theorem rdF_le (L : List UInt8) (pos : Int) : (rdF L pos).1.length ≤ L.length := by
  unfold rdF
  split
  · split
    · simp; omega
    · simp
  · simp
theorem rdB_le (L : List UInt8) (pos mx : Int) : (rdB L pos mx).1.length ≤ L.length := by
  unfold rdB
  split
  · simp
  · split
    · simp
    · split
      · simp
      · split
        · simp
        · simp; omega
theorem lenB_le {M : List UInt8} (h : M.length ≤ 140737488355328) : (lenB M).length ≤ M.length + 10 := by
  unfold lenB
  have := uenc_len10 (v := M.length) (Is64.mk (by omega))
  rw [List.length_append]
  omega
theorem frmOut_le (M : List UInt8) : (frmOut M).length ≤ M.length + 15 := by
  unfold frmOut
  split
  · simp
  · rename_i h
    have := lenB_le (M := M) (by omega)
    unfold frm
    rw [List.length_append, List.length_append, le4_len]
    simp
    omega
theorem ansL_le {u : Nat} {i : Int} {Ls : List (List UInt8)} (hu : Is64 u) (hi : -9223372036854775808 ≤ i ∧ i ≤ 9223372036854775807) (h : ∀ L ∈ Ls, L.length ≤ 4194304) : ∀ X ∈ ansL u i Ls, X.length ≤ 4194400 := by
  intro X hX
  unfold ansL at hX
  rw [List.mem_append] at hX
  rcases hX with hX | hX
  · simp only [List.mem_cons, List.mem_nil_iff, or_false] at hX
    rcases hX with rfl | rfl
    · have := uenc_len10 hu; omega
    · have := uenc_len10 (zig_64 hi); omega
  · rw [List.mem_flatten] at hX
    obtain ⟨Y, hY, hXY⟩ := hX
    obtain ⟨L, hL, rfl⟩ := List.mem_map.1 hY
    have hl := h L hL
    have h1 := frmOut_le L
    have h2 := rdF_le (frmOut L) 0
    have h3 := lenB_le (M := L) (by omega)
    have h4 := rdB_le (lenB L) 0 (lenB L).length
    unfold ans1 at hXY
    simp only [List.mem_cons, List.mem_nil_iff, or_false] at hXY
    rcases hXY with rfl | rfl | rfl | rfl <;> omega
theorem len_of_flatten {Ls : List (List UInt8)} {n : Nat} (h : Ls.flatten.length ≤ n) : ∀ L ∈ Ls, L.length ≤ n := by
  intro L hL
  obtain ⟨k, hk, rfl⟩ := List.mem_iff_getElem.1 hL
  have h1 := flat_snoc Ls k Ls[k] (List.getElem?_eq_getElem hk)
  have h2 := flat_take Ls (k + 1)
  rw [h1, List.length_append] at h2
  omega
theorem getD_le {As : List (List UInt8)} {n : Nat} (h : ∀ X ∈ As, X.length ≤ n) (j : Nat) : (As.getD j []).length ≤ n := by
  rw [List.getD_eq_getElem?_getD]
  cases e : As[j]? with
  | none => simp
  | some X => exact h X (List.mem_of_getElem? e)

/-- A row that no filled list holds. -/
theorem Own.touch {B : Nat} {w w' : World} {u : Value} {L : List UInt8} {vs : List Value} (h : Own B w u L) (ht : Touch vs w w') (hn : ∀ q, u.ownBlock = some q → ∀ i, i < vs.length → (vs.getD i undef).ownBlock ≠ some q) : Own B w' u L := by
  refine ⟨h.1, h.2.1, ?_⟩
  rcases h.2.2 with ⟨rfl, h0⟩ | ⟨g, cap, cur, rfl, hB, hg, hr⟩
  · exact .inl ⟨rfl, h0⟩
  · exact .inr ⟨g, cap, cur, rfl, hB, (ht.block g (Array.getElem?_eq_some_iff.1 hg).1 (hn g rfl)).trans hg, hr⟩
theorem OwnV.touch {B B' : Nat} {w w' : World} {v : Value} {ks vs : List Value} {Ls : List (List UInt8)} (h : OwnV B w v ks) (ht : Touch vs w w') (hv : Ra B' w vs Ls) : OwnV B w' v ks := by
  refine ⟨h.1, ?_⟩
  rcases h.2 with ⟨rfl, h0⟩ | ⟨g, cap, cur, rfl, hB, hg, hr⟩
  · exact .inl ⟨rfl, h0⟩
  · refine .inr ⟨g, cap, cur, rfl, hB, (ht.block g (Array.getElem?_eq_some_iff.1 hg).1 fun i hi e => ?_).trans hg, hr⟩
    rcases (hv.2.1 i (by have := hv.1; omega)).2.2 with ⟨e2, _⟩ | ⟨g', cap', cur', e2, _, hg', _⟩
    · rw [e2] at e; cases e
    · rw [e2] at e
      obtain rfl : g' = g := by simpa [Value.ownBlock] using e
      rw [hg] at hg'
      simp at hg'

/-- What stand asks for, as lists. -/
def msL (N : Nat → Nat) (n : Nat) : List (List UInt8) := (List.range n).map fun i => txt i (N i) 0
def gsL (N : Nat → Nat) (n : Nat) : List (List UInt8) := (List.range (3 * n)).map fun q => txt (q / 3) (N (q / 3)) (cnt (q % 3))
theorem msL_len (N : Nat → Nat) (n : Nat) : (msL N n).length = n := by simp [msL]
theorem gsL_len (N : Nat → Nat) (n : Nat) : (gsL N n).length = 3 * n := by simp [gsL]
theorem msL_get (N : Nat → Nat) (n i : Nat) (h : i < n) : (msL N n).getD i [] = txt i (N i) 0 := by simp [msL, List.getD_eq_getElem?_getD, h]
theorem gsL_get (N : Nat → Nat) (n i c : Nat) (h : i < n) (hc : c < 3) : (gsL N n).getD (3 * i + c) [] = txt i (N i) (cnt c) := by
  have h1 : 3 * i + c < 3 * n := by omega
  have h2 : (3 * i + c) / 3 = i := by omega
  have h3 : (3 * i + c) % 3 = c := by omega
  simp [gsL, List.getD_eq_getElem?_getD, h1, h2, h3]

/-- Filled lists stand. -/
theorem stand_e (lv mv : Value) (vs us : List Value) (B B1 B2 : Nat) (N : Nat → Nat) (w : World) (h1 : OwnV B1 w lv vs) (h2 : OwnV B2 w mv us) (hl : us.length = 3 * vs.length) (hn : vs.length ≤ 1099511627)
    (hM : ∀ j, j < vs.length → Own B w (vs.getD j undef) (txt j (N j) 0)) (hG : ∀ j c, j < vs.length → c < 3 → Own B w (us.getD (3 * j + c) undef) (txt j (N j) (cnt c))) :
    Calls Tryd.prog 42 #[lv, mv] w fun e w' => e = .returned (.bool true) ∧ w = w' := by
  refine stand_any lv mv (msL N vs.length) (gsL N vs.length) N w ?_ ?_ (by rw [msL_len, gsL_len]) (by rw [msL_len]; exact hn) (fun i hi => msL_get N _ i (by rw [msL_len] at hi; exact hi)) (fun i c hi hc => gsL_get N _ i c (by rw [msL_len] at hi; exact hi) hc)
  · refine h1.rdl (by rw [msL_len]) (by rw [msL_len]; omega) fun i hi => ?_
    rw [msL_len] at hi
    rw [msL_get N _ i hi]
    exact (hM i hi).rd
  · refine h2.rdl (by rw [gsL_len, hl]) (by rw [gsL_len]; omega) fun q hq => ?_
    rw [gsL_len] at hq
    have := hG (q / 3) (q % 3) (by omega) (by omega)
    rw [show 3 * (q / 3) + q % 3 = q by omega] at this
    rw [show (gsL N vs.length).getD q [] = txt (q / 3) (N (q / 3)) (cnt (q % 3)) by simp [gsL, List.getD_eq_getElem?_getD, hq]]
    exact this.rd

end Go.Proofs.YtbobigaifkffoaaDoor
