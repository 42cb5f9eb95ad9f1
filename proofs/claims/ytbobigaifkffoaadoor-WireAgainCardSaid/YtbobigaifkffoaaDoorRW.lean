/-
  LISTS OF CALLS THAT CAME IN.
-/
import Derived.Test.YtbobigaifkffoaaDoorRL
import Derived.Test.YtbobigaifkffoaaDoorL31
import Derived.Deep.Fields
namespace Go.Proofs.YtbobigaifkffoaaDoor
open Go.ChangeShapes Go.WideShapes Go.ChangeAt Go.RowKit
set_option linter.unusedVariables false

theorem bytes66 : Tryd.prog.bytesOf 66 = 88 := by kernel_rfl
theorem cells66 : Tryd.prog.cellsOf 66 = 7 := by kernel_rfl
theorem cells3 : Tryd.prog.cellsOf 3 = 1 := by kernel_rfl
theorem cells2 : Tryd.prog.cellsOf 2 = 1 := by kernel_rfl
theorem cells51 : Tryd.prog.cellsOf 51 = 1 := by kernel_rfl
theorem cells40 : Tryd.prog.cellsOf 40 = 1 := by kernel_rfl
variable {H : Type} {enc : TypeId × Value → H}

/-- A byte slice that came in. -/
theorem bytes_wide {W : World} {v : Value} {d : DataW H} {p : List MemPlace} {sp : Nat → Bool} {hd : Bool} {base n : Nat}
    (h : DataW.trod enc Tryd.prog W base sp hd n 22 [v] = some (d, p)) (hs : ∀ n ∈ d.weights Tryd.prog 22, n ≤ reachBytes) (hsp : ∀ k, sp k = true) : ∃ L, Rd W v L := by
  have hform : ∃ a' l' c', v = .slice a' l' c' := by
    rcases open_ints Tryd.underlying22 Tryd.underlying5 (by kernel_rfl) h with ⟨hcs, _⟩ | ⟨x', l', c', zs, hcs, _⟩
    · exact ⟨none, 0, 0, by simpa using hcs⟩
    · exact ⟨some x', l', c', by simpa using hcs⟩
  obtain ⟨a', l', c', rfl⟩ := hform
  obtain ⟨L, _, hr⟩ := bytes_in (a := a') (len := l') (cap := c') ⟨n, by simpa [Value.cells] using h⟩ (fun elems spare e => hs _ (by rw [e]; simp [DataW.weights, Tryd.underlying22])) hsp
  exact ⟨L, hr⟩

theorem weights_struct {ds : List (DataW H)} {fs : Array Field} {t : TypeId} (ht : Tryd.prog.underlying t = some (.struct fs)) {j : Nat} {f : Field} {d : DataW H} (hj : fs[j]? = some f) (hd : ds[j]? = some d) :
    ∀ n ∈ d.weights Tryd.prog f.type, n ∈ (DataW.agg ds).weights Tryd.prog t := fun n hn => by
  simp only [DataW.weights, ht]
  exact DataW.weights_mem_each (by simp [hj]) hd n hn

/-- A list of calls that came in. -/
theorem ops_wide {W : World} {a : Option Addr} {len cap : Nat} {d : DataW H} {p : List MemPlace} {sp : Nat → Bool} {hd : Bool} {base : Nat}
    (h : DataW.Trod enc Tryd.prog W base sp hd 62 (.slice a len cap) d p) (hsp : ∀ k, sp k = true) (hs : ∀ n ∈ d.weights Tryd.prog 62, n ≤ reachBytes) :
    ∃ os, RdOw W (.slice a len cap) os := by
  obtain ⟨fuel, hf⟩ := h
  rcases Go.Deep.open_slice Tryd.underlying62 hf with ⟨hcs, _⟩ | ⟨x, l, c, m, n, D, Pl, hcs, _, hl, hm, hmm, hx, hV⟩
  · simp [Value.cells] at hcs
    obtain ⟨rfl, rfl, rfl⟩ := hcs
    exact ⟨[], none, 0, rfl, by simp, fun h => by simp at h⟩
  · simp [Value.cells] at hcs
    obtain ⟨rfl, rfl, rfl⟩ := hcs
    rw [hsp, if_pos rfl] at hmm
    subst hmm
    have hd' := congrArg Prod.fst hx
    simp only at hd'
    have hw0 : (len + (m - len)) * 88 ≤ reachBytes := hs _ (by rw [hd']; simp [DataW.weights, Tryd.underlying62, bytes66])
    have hlen : len ≤ 140737555464192 := by simp only [reachBytes] at hw0; omega
    have hone : ∀ i, i < len → ∃ o : OpD, o.OkW ∧ OpAt W (x.add (i * 7)) o := by
      intro i hi
      obtain ⟨cs', h1, h2⟩ := hV i (by omega)
      have hin : D i ∈ (List.range len).map D := List.mem_map.2 ⟨i, List.mem_range.2 hi, rfl⟩
      have hweigh : ∀ n ∈ (D i).weights Tryd.prog 66, n ≤ reachBytes := by
        intro n hn
        refine hs n ?_
        rw [hd']
        simp only [DataW.weights, Tryd.underlying62, List.mem_cons, List.mem_append]
        exact .inr (.inl (mem_weightsAll hin n hn))
      rw [cells66] at h1
      obtain ⟨_, hcl, hat⟩ := World.cells?_some h1
      obtain ⟨xs, n', _, hy, _, hxl, hfl⟩ := DataW.trod_struct Tryd.underlying66 h2
      simp only [Prod.mk.injEq] at hy
      rw [hy.1] at hweigh
      match cs', hcl with
      | [e0, e1, e2, e3, e4, e5, e6], _ =>
        have hxl' : xs.length = 7 := hxl
        match xs, hxl' with
        | [y0, y1, y2, y3, y4, y5, y6], _ =>
          have g0 := hfl 0 _ rfl
          have g1 := hfl 1 _ rfl
          have g2 := hfl 2 _ rfl
          have g3 := hfl 3 _ rfl
          have g4 := hfl 4 _ rfl
          have g5 := hfl 5 _ rfl
          have g6 := hfl 6 _ rfl

          simp [cells3, cells51, cells2, cells22, cells40] at g0 g1 g2 g3 g4 g5 g6
          obtain ⟨z0, q0, _, w0⟩ := DataW.trod_int Tryd.underlying3 g0
          obtain ⟨z1, q1, _, w1⟩ := DataW.trod_int Tryd.underlying51 g1
          obtain ⟨z2, q2, _, w2⟩ := DataW.trod_int Tryd.underlying2 g2
          obtain ⟨z3, q3, _, w3⟩ := DataW.trod_int Tryd.underlying3 g3
          obtain ⟨z4, q4, _, w4⟩ := DataW.trod_int Tryd.underlying3 g4
          simp at q0 q1 q2 q3 q4
          subst q0; subst q1; subst q2; subst q3; subst q4
          have b1 := bd_u64 w1
          have hz2 : ((z1.toNat : Nat) : Int) = z1 := by omega
          have b2 := bd_i64 w2
          have b3 := bd_i64 w3
          have b4 := bd_i64 w4
          obtain ⟨L, hL⟩ := bytes_wide (d := y5.1) (p := y5.2) g5 (fun n hn => hweigh n (weights_struct (j := 5) (d := y5.1) Tryd.underlying66 rfl rfl n hn)) hsp
          have hform : ∃ a' l' c', e6 = .slice a' l' c' := by
            rcases Go.Deep.open_slice1 Tryd.underlying40 cells22 g6 with ⟨hcs, _⟩ | ⟨x', l', c', _, _, _, _, _, hcs, _⟩
            · exact ⟨none, 0, 0, by simpa using hcs⟩
            · exact ⟨some x', l', c', by simpa using hcs⟩
          obtain ⟨a', l', c', rfl⟩ := hform
          obtain ⟨Ls, hLs⟩ := lists_in (a := a') (len := l') (cap := c') (d := y6.1) (p := y6.2) ⟨n', by simpa [Value.cells] using g6⟩ hsp
            (fun n hn => hweigh n (weights_struct (j := 6) (d := y6.1) Tryd.underlying66 rfl rfl n hn))
          refine ⟨⟨z0, z1.toNat, z2, z3, z4, L, Ls⟩, ⟨Is64.mk (show z1.toNat < 18446744073709551616 by omega), b2, b3.1, b4.2⟩, _, _, ?_, ?_, ?_, ?_, ?_, ?_, ?_, hL, hLs⟩
          · have := hat 0 (by omega)
            rwa [show (x.add (i * 7)).add 0 = x.add (i * 7) by simp [Addr.add]] at this
          · show _ = some (Value.int .u64 ((z1.toNat : Nat) : Int))
            rw [hz2]
            exact hat 1 (by omega)
          · exact hat 2 (by omega)
          · exact hat 3 (by omega)
          · exact hat 4 (by omega)
          · exact hat 5 (by omega)
          · exact hat 6 (by omega)
    haveI : Inhabited OpD := ⟨⟨0, 0, 0, 0, 0, [], []⟩⟩
    obtain ⟨f, hfn⟩ := Go.Deep.choose_lt (α := OpD) hone
    refine ⟨(List.range len).map f, some x, m, by simp, by simp; omega, fun h0 => ⟨x, rfl, fun j o hj => ?_⟩⟩
    have hj' : j < len := by
      have := (List.getElem?_eq_some_iff.1 hj).1
      simpa using this
    obtain rfl : f j = o := by simpa [hj'] using hj
    exact hfn j hj'

end Go.Proofs.YtbobigaifkffoaaDoor
