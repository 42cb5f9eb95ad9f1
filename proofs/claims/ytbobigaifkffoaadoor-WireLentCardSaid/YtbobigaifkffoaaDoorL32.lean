/-
  Several byte slices of the call's own, each in a block of its own; 'append' of several to a list.
-/
import Derived.Test.YtbobigaifkffoaaDoorL27
namespace Go.Proofs.YtbobigaifkffoaaDoor
open Go.RowKit
set_option linter.unusedVariables false
set_option linter.unusedSimpArgs false

/-- x, a list of byte slices, holds the values ns. -/
def VsAt (w : World) (x : Value) (ns : List Value) : Prop :=
  ∃ A c, x = .slice A ns.length c ∧ (A = none → c = 0) ∧ (0 < ns.length → ∃ ad, A = some ad ∧ ∀ j u, ns[j]? = some u → w.cell? (ad.add j) = some u) ∧ ∀ u ∈ ns, u.oneCell' = true

/-- 'append(l, xs...)' to a list of byte slices of the call's own: where the new row lies. -/
theorem wpList_appVs {w : World} {ops : Array Oper} {rest : List Oper} {o : Oper} {a : Act} {Q : Exit → Act → World → Prop} (hgd : o.guard = none) (s x : Operand)
    (ho : o.op = .call { callee := .builtin .append, args := #[s, x], argTypes := #[40, 40] }) (B : Nat) (v x' : Value) (vs ns : List Value) (hs : a.eval s = v)
    (hx : a.eval x = x') (hown : OwnV B w v vs) (hns : VsAt w x' ns) (hlen : vs.length + ns.length ≤ 1099511627776) (hbase : B ≤ w.heap.size)
    (h : ∀ v' w', OwnV B w' v' (vs ++ ns) → w.grownBy w' v.ownBlock → (∀ q, v'.ownBlock = some q → v.ownBlock = some q ∨ q = w.heap.size) → wpList Tryd.prog ops Q rest (a.put o.dst v') w') : wpList Tryd.prog ops Q (o :: rest) a w := by
  obtain ⟨i0, hi, hz0, hz1, hz2⟩ := info_parts info22
  obtain ⟨A, c, rfl, hnil, hc, h1⟩ := hns
  by_cases h0 : 0 < ns.length
  · obtain ⟨ad, rfl, hcell⟩ := hc h0
    refine wpList_append_lies w hgd s x 40 ho B 22 i0 (.slice none 0 0) 1 24 Tryd.underlying40 hi hz0 hz1 hz2 rfl (by decide) v vs.length vs hs hown ad ns.length c ns hx (by simp) hcell h1 h0 (by unfold maxLen; omega) (by omega) hbase w.heap.size rfl ?_
    intro g' cap' w' h1 h2 h3 _
    refine h _ w' (by unfold OwnV; rw [List.length_append]; exact h1) h2 fun q hq => ?_
    obtain rfl : g' = q := by simpa [Value.ownBlock] using hq
    exact h3
  · obtain rfl : ns = [] := List.eq_nil_of_length_eq_zero (by omega)
    match A, hnil with
    | none, hnil =>
      obtain rfl := hnil rfl
      refine wpList_append_own_none hgd s x 40 ho B 22 i0 1 Tryd.underlying40 hi v vs.length vs hs hown hx ?_
      exact h v w (by simpa using hown) ⟨rfl, rfl, rfl, Nat.le_refl _, fun _ _ _ => rfl⟩ (fun q hq => .inl hq)
    | some ad, _ =>
      obtain ⟨v', w', hrun, hown', hgr, _, hl⟩ := run_append_own_at (P := Tryd.prog) w B 40 o.type 22 i0 (.slice none 0 0) 1 24 Tryd.underlying40 hi hz0 hz1 hz2 rfl (by decide) v vs.length vs hown ad 0 c [] rfl
        (fun j u hj => by simp at hj) (fun u hu => by simp at hu) (by unfold maxLen; simp at hlen; omega) (by simp at hlen; omega) hbase
      refine wpList_plain hgd fun K hK => ?_
      unfold Oper.wp execOp
      simp only [ho, resolve, invoke, builtin, Sem.run_bind, Sem.run_pure, Result.andThen_ok, List.map_toArray, List.map_cons, List.map_nil, hs, hx]
      rw [show ([] : List Value).length = 0 from rfl, hrun]
      refine hK _ _ (h v' w' (by unfold OwnV; rw [List.length_append]; simpa using hown') hgr fun q hq => ?_)
      rcases hl with hl | hl
      · exact .inl (by rw [← hl]; exact hq)
      · right
        rw [hl] at hq
        simpa using hq.symm

/-- A new block of slices. -/
theorem VsAt.new {w : World} {vs : List Value} {g n : Nat} (hg : g = w.heap.size) (hn : n = vs.length) (h1 : ∀ u ∈ vs, u.oneCell' = true) : VsAt (w.alloc (.cells vs.toArray 22)) (.slice (some ⟨g, 0, none⟩) n n) vs := by
  subst hg; subst hn
  refine ⟨_, _, rfl, fun h => by (cases h), fun _ => ⟨_, rfl, fun j u hj => ?_⟩, h1⟩
  have hadd : (⟨w.heap.size, 0, none⟩ : Addr).add j = ⟨w.heap.size, j, none⟩ := by unfold Addr.add; split <;> simp_all
  rw [hadd, cell_of_row _ w.heap.size j _ 22 (0, 0) (heap_new w _)]
  simpa using hj
theorem OwnV.vsAt {B : Nat} {w : World} {v : Value} {vs : List Value} (h : OwnV B w v vs) (h1 : ∀ u ∈ vs, u.oneCell' = true) : VsAt w v vs := by
  obtain ⟨A, c, rfl, hc, hnil⟩ := h.form
  refine ⟨A, c, rfl, hnil, fun h0 => ?_, h1⟩
  obtain ⟨g, rfl, _⟩ := h.at_ 0 (vs[0]'h0) (List.getElem?_eq_getElem h0)
  refine ⟨_, rfl, fun j u hj => ?_⟩
  obtain ⟨g', e, h3, _⟩ := h.at_ j u hj
  injection e with e
  injection e with e
  subst e
  have hadd : (⟨g, 0, none⟩ : Addr).add j = ⟨g, j, none⟩ := by unfold Addr.add; split <;> simp_all
  rw [hadd]
  exact h3

/-- The slices vs, of the call's own from block B on, read as Ls; no two lie in one block. -/
def Ra (B : Nat) (w : World) (vs : List Value) (Ls : List (List UInt8)) : Prop :=
  vs.length = Ls.length ∧ (∀ i, i < Ls.length → Own B w (vs.getD i undef) (Ls.getD i [])) ∧ ∀ i j, i < j → j < vs.length → ∀ q, (vs.getD i undef).ownBlock = some q → (vs.getD j undef).ownBlock ≠ some q
theorem Ra.nil (B : Nat) (w : World) : Ra B w [] [] := ⟨rfl, fun i hi => by simp at hi, fun i j _ hj => by simp at hj⟩
theorem Ra.below {B : Nat} {w w1 : World} {vs : List Value} {Ls : List (List UInt8)} (h : Ra B w vs Ls) (hb : Below w.heap.size w w1) : Ra B w1 vs Ls := ⟨h.1, fun i hi => (h.2.1 i hi).below hb, h.2.2⟩
theorem Ra.mono {B B' : Nat} {w : World} {vs : List Value} {Ls : List (List UInt8)} (h : Ra B w vs Ls) (hb : B' ≤ B) : Ra B' w vs Ls := ⟨h.1, fun i hi => (h.2.1 i hi).mono hb, h.2.2⟩
theorem Ra.alloc {B : Nat} {w : World} {vs : List Value} {Ls : List (List UInt8)} (h : Ra B w vs Ls) (o : Obj) : Ra B (w.alloc o) vs Ls := ⟨h.1, fun i hi => (h.2.1 i hi).alloc o, h.2.2⟩
theorem Ra.other {B B' : Nat} {w w1 : World} {vs vs' : List Value} {v' : Value} {Ls : List (List UInt8)} (h : Ra B w vs Ls) (h' : OwnV B' w v' vs') (hg : w.grownBy w1 v'.ownBlock) : Ra B w1 vs Ls := ⟨h.1, fun i hi => own_other (h.2.1 i hi) h' hg, h.2.2⟩
theorem Ra.lt {B : Nat} {w : World} {vs : List Value} {Ls : List (List UInt8)} (h : Ra B w vs Ls) (i : Nat) (hi : i < vs.length) (q : Nat) (hq : (vs.getD i undef).ownBlock = some q) : B ≤ q ∧ q < w.heap.size := (h.2.1 i (by have := h.1; omega)).2.lt q hq
theorem getD_left {α : Type} {l m : List α} {i : Nat} {d : α} (h : i < l.length) : (l ++ m).getD i d = l.getD i d := by
  rw [List.getD_eq_getElem?_getD, List.getElem?_append_left h, ← List.getD_eq_getElem?_getD]
theorem getD_right {α : Type} {l m : List α} {i : Nat} {d : α} (h : l.length ≤ i) : (l ++ m).getD i d = m.getD (i - l.length) d := by
  rw [List.getD_eq_getElem?_getD, List.getElem?_append_right h, ← List.getD_eq_getElem?_getD]
/-- Two such, the second's blocks newer. -/
theorem Ra.join {B m : Nat} {w : World} {vs us : List Value} {Ls Ms : List (List UInt8)} (h : Ra B w vs Ls) (k : Ra m w us Ms) (hm : ∀ i, i < vs.length → ∀ q, (vs.getD i undef).ownBlock = some q → q < m) (hB : B ≤ m) : Ra B w (vs ++ us) (Ls ++ Ms) := by
  have hl := h.1
  refine ⟨by simp [h.1, k.1], fun i hi => ?_, fun i j hij hj q hq => ?_⟩
  · rw [List.length_append] at hi
    by_cases h1 : i < Ls.length
    · rw [getD_left (by omega), getD_left h1]
      exact h.2.1 i h1
    · rw [getD_right (by omega), getD_right (by omega), hl]
      exact (k.2.1 _ (by omega)).mono hB
  · rw [List.length_append] at hj
    by_cases h2 : j < vs.length
    · rw [getD_left (by omega)] at hq
      rw [getD_left h2]
      exact h.2.2 i j hij h2 q hq
    · by_cases h1 : i < vs.length
      · rw [getD_left h1] at hq
        rw [getD_right (by omega)]
        intro hq2
        have := hm i h1 q hq
        have := (k.lt _ (by omega) q hq2).1
        omega
      · rw [getD_right (by omega)] at hq ⊢
        exact k.2.2 _ _ (by omega) (by omega) q hq
/-- One more, out of a call. -/
theorem Ra.call {B : Nat} {wr w1 : World} {vs : List Value} {Ls : List (List UInt8)} {u : Value} {L : List UInt8} (h : Ra B wr vs Ls) (hb : Below wr.heap.size wr w1) (ho : Own wr.heap.size w1 u L) (hB : B ≤ wr.heap.size) : Ra B w1 (vs ++ [u]) (Ls ++ [L]) := by
  refine (h.below hb).join (m := wr.heap.size) ⟨rfl, fun i hi => ?_, fun i j hij hj => by simp at hj; omega⟩ (fun i hi q hq => (h.lt i hi q hq).2) hB
  obtain rfl : i = 0 := by simp at hi; omega
  exact ho
theorem Ra.one {B : Nat} {w : World} {vs : List Value} {Ls : List (List UInt8)} (h : Ra B w vs Ls) : ∀ u ∈ vs, u.oneCell' = true := by
  intro u hu
  obtain ⟨i, hi, rfl⟩ := List.mem_iff_getElem.1 hu
  obtain ⟨A, c, e⟩ := (h.2.1 i (by have := h.1; omega)).rd.form
  have e2 : vs.getD i undef = vs[i] := by simp [List.getD_eq_getElem?_getD, hi]
  rw [← e2, e]; rfl
theorem Ra.rdl {B B' : Nat} {w : World} {v : Value} {vs : List Value} {Ls : List (List UInt8)} (h : Ra B w vs Ls) (hv : OwnV B' w v vs) (hn : Ls.length ≤ 140737555464192) : RdL w v Ls := hv.rdl h.1 hn fun i hi => (h.2.1 i hi).rd

end Go.Proofs.YtbobigaifkffoaaDoor
