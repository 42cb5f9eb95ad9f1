/-
  WHAT A STORE INTO THE CALL's BOX LEAVES.
-/
import Derived.Test.YtbobigaifkffoaaDoorL26
namespace Go.Proofs.YtbobigaifkffoaaDoor
open Go.RowKit
set_option linter.unusedVariables false
set_option linter.unusedSimpArgs false

theorem Own.set {B : Nat} {w : World} {v : Value} {L : List UInt8} (h : Own B w v L) {a : Addr} (ha : a.block < B) (u : Value) : Own B (w.setCell a u) v L := ⟨h.1, ownsRow_setCell_below h.2 ha u⟩
theorem OwnV.set {B : Nat} {w : World} {v : Value} {vs : List Value} (h : OwnV B w v vs) {a : Addr} (ha : a.block < B) (u : Value) : OwnV B (w.setCell a u) v vs := ownsRow_setCell_below h ha u
theorem cell_set_other (w : World) {a b : Addr} (h : b.block ≠ a.block) (u : Value) : (w.setCell a u).cell? b = w.cell? b :=
  World.cell?_of_block (Below.heap_setCell w a u b.block h)
theorem TabOk.set {w : World} (h : TabOk w) {a : Addr} (ha : 0 < a.block) (u : Value) : TabOk (w.setCell a u) := fun i hi => by
  rw [cell_set_other w (by show 0 ≠ a.block; omega)]
  exact h i hi
theorem TabOk.pos {w : World} (h : TabOk w) : 0 < w.heap.size := World.block_lt_of_cell? w _ (h 0 (by omega))
theorem Rd.set {w : World} {v : Value} {L : List UInt8} (h : Rd w v L) {a : Addr} (ha : ∀ g, v.ownBlock = some g → g ≠ a.block) (u : Value) : Rd (w.setCell a u) v L := by
  obtain ⟨A, cap, rfl, h1, hn, h2, h3⟩ := h
  refine ⟨A, cap, rfl, h1, hn, h2, fun h0 => ?_⟩
  obtain ⟨ad, rfl, hc⟩ := h3 h0
  refine ⟨ad, rfl, fun j hj => ?_⟩
  rw [cell_set_other w ?_]
  · exact hc j hj
  · have : (ad.add j).block = ad.block := by unfold Addr.add; split <;> rfl
    rw [this]
    exact ha _ rfl

/-- 'append(l, x)' to a list of byte slices: where the new row lies. -/
theorem wpList_appVl {w : World} {ops : Array Oper} {rest : List Oper} {o : Oper} {a : Act} {Q : Exit → Act → World → Prop} (hgd : o.guard = none) (s x : Operand)
    (ho : o.op = .call { callee := .builtin .append, args := #[s, x], argTypes := #[40, 40] }) (B : Nat) (v : Value) (A : Option Addr) (n c g c' : Nat) (vs : List Value) (hs : a.eval s = v)
    (hx : a.eval x = .slice (some ⟨g, 0, none⟩) 1 c') (hown : OwnV B w v vs) (hcell : w.cell? ⟨g, 0, none⟩ = some (.slice A n c)) (hlen : vs.length ≤ 1099511627776) (hbase : B ≤ w.heap.size)
    (h : ∀ v' w', OwnV B w' v' (vs ++ [.slice A n c]) → w.grownBy w' v.ownBlock → (∀ q, v'.ownBlock = some q → v.ownBlock = some q ∨ q = w.heap.size) → wpList Tryd.prog ops Q rest (a.put o.dst v') w') : wpList Tryd.prog ops Q (o :: rest) a w := by
  obtain ⟨i0, hi, hz0, hz1, hz2⟩ := info_parts info22
  refine wpList_append_lies w hgd s x 40 ho B 22 i0 (.slice none 0 0) 1 24 Tryd.underlying40 hi hz0 hz1 hz2 rfl (by decide) v vs.length vs hs hown ⟨g, 0, none⟩ 1 c' [.slice A n c] hx rfl ?_ ?_ (by omega) (by unfold maxLen; omega) (by omega) hbase w.heap.size rfl ?_
  · intro j u hj
    match j, hj with
    | 0, hj => simp at hj; subst hj; simpa [Addr.add] using hcell
    | j + 1, hj => simp at hj
  · intro u hu
    simp at hu
    subst hu
    rfl
  · intro g' cap' w' h1 h2 h3 _
    refine h _ w' (by unfold OwnV; rw [List.length_append]; exact h1) h2 fun q hq => ?_
    obtain rfl : g' = q := by simpa [Value.ownBlock] using hq
    exact h3
theorem OwnV.other {B : Nat} {w w1 : World} {v v' : Value} {vs : List Value} (h : OwnV B w v vs) (hg : w.grownBy w1 v'.ownBlock) (hne : ∀ q, v.ownBlock = some q → v'.ownBlock ≠ some q) : OwnV B w1 v vs := by
  refine World.ownsRow.kept h hg ?_
  rcases h.2 with ⟨rfl, _⟩ | ⟨q, cap, cur, rfl, _⟩
  · exact .inl rfl
  · exact .inr fun e => hne q rfl e.symm

theorem BoxAt.set {w : World} {g : Nat} {cs : Array Value} (h : BoxAt w g cs) (j : Nat) (u : Value) (hj : j < cs.size) : BoxAt (w.setCell ⟨g, j, none⟩ u) g (cs.setIfInBounds j u) := by
  intro i v hi
  by_cases hij : j = i
  · subst hij
    rw [Array.getElem?_setIfInBounds_self_of_lt hj] at hi
    obtain rfl : u = v := by simpa using hi
    exact World.cell?_setCell_same _ _ _ (h j _ (Array.getElem?_eq_getElem hj))
  · rw [Array.getElem?_setIfInBounds_ne hij] at hi
    exact (World.cell?_setCell_other _ _ _ _ (by intro e; injection e with _ e; exact hij e)).trans (h i v hi)
theorem Rd.pre {w : World} {A : Option Addr} {n c : Nat} {L M N : List UInt8} (h : Rd w (.slice A n c) L) (e : M ++ N = L) : Rd w (.slice A M.length c) M := by
  obtain ⟨rfl, hc, hn, hl, hr⟩ := h.slice
  subst e
  rw [List.length_append] at hc hl
  refine ⟨A, c, rfl, by omega, hn, by omega, fun h0 => ?_⟩
  obtain ⟨ad, rfl, hcell⟩ := hr (by rw [List.length_append]; omega)
  refine ⟨ad, rfl, fun j hj => ?_⟩
  rw [hcell j (by rw [List.length_append]; omega)]
  rw [List.getD_eq_getElem?_getD, List.getElem?_append_left hj, ← List.getD_eq_getElem?_getD]
theorem RdL.pre {w : World} {A : Option Addr} {n c : Nat} {Ls Ms : List (List UInt8)} (h : RdL w (.slice A n c) (Ls ++ Ms)) : RdL w (.slice A Ls.length c) Ls := by
  obtain ⟨A', c', e, h1, hn, h2, h3⟩ := h
  injection e with e1 e2 e3
  subst e1; subst e3
  rw [List.length_append] at h1 h2
  refine ⟨A, c, rfl, by omega, hn, by omega, fun h0 => ?_⟩
  obtain ⟨ad, rfl, hcell⟩ := h3 (by rw [List.length_append]; omega)
  refine ⟨ad, rfl, fun j hj => ?_⟩
  obtain ⟨sv, h4, h5⟩ := hcell j (by rw [List.length_append]; omega)
  refine ⟨sv, h4, ?_⟩
  rwa [List.getD_eq_getElem?_getD, List.getElem?_append_left hj, ← List.getD_eq_getElem?_getD] at h5
theorem list_marks {b : Nat} {w : World} {A : Option Addr} {c : Nat} {vs ms l2 : List Value} {Ls : List (List UInt8)} (h : OwnV b w (.slice A l2.length c) l2) (hl : vs ++ ms = l2) (hv : vs.length = Ls.length) (hm : ms.length = 20) (hn : Ls.length ≤ 4194304)
    (he : ∀ i, i < Ls.length → Rd w (vs.getD i undef) (Ls.getD i [])) (hms : ∀ j, j < 20 → Rd w (ms.getD j undef) [207]) : RdL w (.slice A Ls.length c) Ls := by
  refine RdL.pre (n := l2.length) (Ms := List.replicate 20 [207]) (OwnV.rdl h ?_ ?_ ?_)
  · rw [← hl, List.length_append, List.length_append, hv, hm, List.length_replicate]
  · rw [List.length_append, List.length_replicate]; omega
  · intro i hi
    rw [List.length_append, List.length_replicate] at hi
    subst hl
    by_cases h1 : i < Ls.length
    · rw [List.getD_eq_getElem?_getD, List.getElem?_append_left (by omega), ← List.getD_eq_getElem?_getD]
      rw [List.getD_eq_getElem?_getD (l := Ls ++ _), List.getElem?_append_left h1, ← List.getD_eq_getElem?_getD]
      exact he i h1
    · rw [List.getD_eq_getElem?_getD, List.getElem?_append_right (by omega), ← List.getD_eq_getElem?_getD]
      rw [List.getD_eq_getElem?_getD (l := Ls ++ _), List.getElem?_append_right (by omega), List.getElem?_replicate, if_pos (by omega), hv]
      exact hms _ (by omega)
theorem kinds (kd : Int) : ((kd == 1) = true ∨ ((kd == 1) = false ∧ (kd == 2) = true) ∨ ((kd == 1) = false ∧ (kd == 2) = false ∧ (kd == 3) = true) ∨ ((kd == 1) = false ∧ (kd == 2) = false ∧ (kd == 3) = false ∧ (kd == 4) = true)) ∨
    (((kd == 1) = false ∧ (kd == 2) = false ∧ (kd == 3) = false ∧ (kd == 4) = false) ∧ (((kd == 5) = true ∨ ((kd == 5) = false ∧ (kd == 6) = true) ∨ ((kd == 5) = false ∧ (kd == 6) = false ∧ (kd == 7) = true) ∨ ((kd == 5) = false ∧ (kd == 6) = false ∧ (kd == 7) = false ∧ (kd == 8) = true)) ∨
      (((kd == 5) = false ∧ (kd == 6) = false ∧ (kd == 7) = false ∧ (kd == 8) = false) ∧ ((kd == 9) = true ∨ ((kd == 9) = false ∧ (kd == 10) = true) ∨ ((kd == 9) = false ∧ (kd == 10) = false))))) := by
  cases (kd == 1) <;> cases (kd == 2) <;> cases (kd == 3) <;> cases (kd == 4) <;> cases (kd == 5) <;> cases (kd == 6) <;> cases (kd == 7) <;> cases (kd == 8) <;> cases (kd == 9) <;> cases (kd == 10) <;> decide

end Go.Proofs.YtbobigaifkffoaaDoor
