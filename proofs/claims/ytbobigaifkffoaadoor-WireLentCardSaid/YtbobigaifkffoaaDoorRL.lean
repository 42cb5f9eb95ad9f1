/-
  LISTS OF BYTE SLICES THAT CAME IN.
-/
import Derived.Test.YtbobigaifkffoaaDoorR
namespace Go.Proofs.YtbobigaifkffoaaDoor
open Go.ChangeShapes Go.WideShapes Go.ChangeAt Go.RowKit
set_option linter.unusedVariables false

theorem cells22 : Tryd.prog.cellsOf 22 = 1 := by kernel_rfl
theorem bytes22 : Tryd.prog.bytesOf 22 = 24 := by kernel_rfl
variable {H : Type} {enc : TypeId × Value → H}

theorem mem_weightsAll {P : Program} {e : TypeId} : ∀ {ds : List (DataW H)} {d : DataW H}, d ∈ ds → ∀ n ∈ d.weights P e, n ∈ DataW.weightsAll P e ds
  | d0 :: ds, d, hd, n, hn => by
    simp only [DataW.weightsAll, List.mem_append]
    rcases List.mem_cons.1 hd with rfl | h
    · exact .inl hn
    · exact .inr (mem_weightsAll h n hn)
  | [], _, hd, _, _ => by cases hd

theorem weights_at {ts : List TypeId} {ds : List (DataW H)} (h : (DataW.weightsEach Tryd.prog ts ds).all (· ≤ reachBytes) = true) {j : Nat} {t : TypeId} {d : DataW H} (ht : ts[j]? = some t) (hd : ds[j]? = some d) :
    ∀ n ∈ d.weights Tryd.prog t, n ≤ reachBytes := fun n hn => by
  have := List.all_eq_true.1 h _ (DataW.weights_mem_each ht hd n hn)
  simpa using this

/-- A list of byte slices that came in: what it reads as, index by index. -/
theorem lists_by {W : World} {a : Option Addr} {len cap : Nat} {d : DataW H} {p : List MemPlace} {sp : Nat → Bool} {hd : Bool} {base : Nat}
    (h : DataW.Trod enc Tryd.prog W base sp hd 40 (.slice a len cap) d p) (hs : ∀ n ∈ d.weights Tryd.prog 40, n ≤ reachBytes) (hsp : ∀ k, sp k = true) :
    ∃ Ls, Ls.length = len ∧ RdL W (.slice a len cap) Ls := by
  obtain ⟨fuel, hf⟩ := h
  rcases Go.Deep.open_slice1 Tryd.underlying40 cells22 hf with ⟨hcs, _⟩ | ⟨x, l, c, m, n, V, D, Pl, hcs, _, hl, hm, hmm, hx, hV⟩
  · simp [Value.cells] at hcs
    obtain ⟨rfl, rfl, rfl⟩ := hcs
    exact ⟨[], rfl, none, 0, rfl, Nat.le_refl _, fun _ => rfl, by simp, fun h => by simp at h⟩
  · simp [Value.cells] at hcs
    obtain ⟨rfl, rfl, rfl⟩ := hcs
    rw [hsp, if_pos rfl] at hmm
    subst hmm
    have hd' := congrArg Prod.fst hx
    simp only at hd'
    have hw0 : (len + (m - len)) * 24 ≤ reachBytes := hs _ (by rw [hd']; simp [DataW.weights, Tryd.underlying40, bytes22])
    have hlen : len ≤ 140737555464192 := by simp only [reachBytes] at hw0; omega
    have hone : ∀ i, i < len → ∃ L, Rd W (V i) L := by
      intro i hi
      obtain ⟨hc, ht⟩ := hV i (by omega)
      have hin : D i ∈ (List.range len).map D := List.mem_map.2 ⟨i, List.mem_range.2 hi, rfl⟩
      have hws : ∀ elems spare, D i = .slice elems spare → (elems.length + spare.length) * Tryd.prog.bytesOf 5 ≤ reachBytes := by
        intro elems spare e
        refine hs _ ?_
        rw [hd']
        simp only [DataW.weights, Tryd.underlying40, List.mem_cons, List.mem_append]
        exact .inr (.inl (mem_weightsAll hin _ (by rw [e]; simp [DataW.weights, Tryd.underlying22])))
      have hform : ∃ a' l' c', V i = .slice a' l' c' := by
        rcases open_ints Tryd.underlying22 Tryd.underlying5 (by kernel_rfl) ht with ⟨hcs, _⟩ | ⟨x', l', c', zs, hcs, _⟩
        · exact ⟨none, 0, 0, by simpa using hcs⟩
        · exact ⟨some x', l', c', by simpa using hcs⟩
      obtain ⟨a', l', c', e⟩ := hform
      rw [e] at ht ⊢
      obtain ⟨L, _, hr⟩ := bytes_in (a := a') (len := l') (cap := c') ⟨n, by simpa [Value.cells] using ht⟩ hws hsp
      exact ⟨L, hr⟩
    obtain ⟨f, hfn⟩ := Go.Deep.choose_lt hone
    refine ⟨(List.range len).map f, by simp, some x, m, by simp, by simpa using hl, fun h => by (cases h), by simpa using hlen, fun h0 => ⟨x, rfl, fun j hj => ?_⟩⟩
    have hj' : j < len := by simpa using hj
    refine ⟨V j, (hV j (by omega)).1, ?_⟩
    have : ((List.range len).map f).getD j [] = f j := by simp [List.getD_eq_getElem?_getD, hj']
    rw [this]
    exact hfn j hj'

theorem lists_in {W : World} {a : Option Addr} {len cap : Nat} {d : DataW H} {p : List MemPlace} {sp : Nat → Bool} {hd : Bool} {base : Nat}
    (h : DataW.Trod enc Tryd.prog W base sp hd 40 (.slice a len cap) d p) (hsp : ∀ k, sp k = true) (hs : ∀ n ∈ d.weights Tryd.prog 40, n ≤ reachBytes) :
    ∃ Ls, RdL W (.slice a len cap) Ls := by
  obtain ⟨Ls, _, h⟩ := lists_by h hs hsp
  exact ⟨Ls, h⟩

end Go.Proofs.YtbobigaifkffoaaDoor
