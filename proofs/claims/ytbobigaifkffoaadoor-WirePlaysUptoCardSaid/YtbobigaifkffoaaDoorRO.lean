/-
  LISTS OF CALLS THAT CAME IN, of a bulk.
-/
import Derived.Test.YtbobigaifkffoaaDoorRL
import Derived.Test.YtbobigaifkffoaaDoorL29
import Derived.Deep.Fields
namespace Go.Proofs.YtbobigaifkffoaaDoor
open Go.ChangeShapes Go.WideShapes Go.ChangeAt Go.RowKit
set_option linter.unusedVariables false

theorem cells66 : Tryd.prog.cellsOf 66 = 7 := by kernel_rfl
theorem cells3 : Tryd.prog.cellsOf 3 = 1 := by kernel_rfl
theorem cells2 : Tryd.prog.cellsOf 2 = 1 := by kernel_rfl
theorem cells51 : Tryd.prog.cellsOf 51 = 1 := by kernel_rfl
theorem cells40 : Tryd.prog.cellsOf 40 = 1 := by kernel_rfl
variable {H : Type} {enc : TypeId × Value → H}

theorem bulk_pos : ∀ d : DataW H, 1 ≤ Rows.uptoBulk d
  | .lit l => by cases l <;> simp [Rows.uptoBulk]
  | .nil | .ptr _ | .slice _ _ | .agg _ | .iface _ _ | .map _ | .held _ => by simp [Rows.uptoBulk]
theorem bulk_mem : ∀ {l : List (DataW H)} {d : DataW H}, d ∈ l → Rows.uptoBulk d ≤ Rows.uptoBulkAll l
  | x :: r, d, h => by
    simp only [Rows.uptoBulkAll]
    rcases List.mem_cons.1 h with rfl | h
    · omega
    · have := bulk_mem h; omega
theorem bulk_len : ∀ l : List (DataW H), l.length ≤ Rows.uptoBulkAll l
  | [] => by simp
  | x :: r => by
    have h1 := bulk_pos x
    have h2 := bulk_len r
    simp only [Rows.uptoBulkAll, List.length_cons]; omega
theorem arg_small (j : Nat) {l : List (DataW H)} {d : DataW H} (hk : Rows.uptoSmall H l = true) (h : l[j]? = some d) : Rows.uptoBulk d ≤ 1048576 := by
  have h1 : Rows.uptoBulkAll l ≤ 1048576 := by simpa [Rows.uptoSmall] using hk
  have h2 := bulk_mem (List.mem_of_getElem? h)
  omega
theorem bytes_small {elems spare : List (DataW H)} (h : Rows.uptoBulk (.slice elems spare) ≤ 1048576) : elems.length + spare.length ≤ 1048576 := by
  have h1 := bulk_len elems
  have h2 := bulk_len spare
  simp only [Rows.uptoBulk] at h
  omega

/-- A byte slice that came in, of a bulk. -/
theorem bytes_by {W : World} {v : Value} {d : DataW H} {p : List MemPlace} {sp : Nat → Bool} {hd : Bool} {base n : Nat}
    (h : DataW.trod enc Tryd.prog W base sp hd n 22 [v] = some (d, p)) (hk : Rows.uptoBulk d ≤ 1048576) (hsp : ∀ k, sp k = true) : ∃ L, L.length ≤ 1048576 ∧ Rd W v L := by
  have hform : ∃ a' l' c', v = .slice a' l' c' ∧ l' ≤ 1048576 := by
    rcases open_ints Tryd.underlying22 Tryd.underlying5 (by kernel_rfl) h with ⟨hcs, _⟩ | ⟨x', l', c', zs, hcs, _, hl, _, hz, hx, _⟩
    · exact ⟨none, 0, 0, by simpa using hcs, by omega⟩
    · refine ⟨some x', l', c', by simpa using hcs, ?_⟩
      have hd' : d = .slice (lits .u8 (zs.take l')) (lits .u8 (zs.drop l')) := congrArg Prod.fst hx
      rw [hd'] at hk
      have := bytes_small hk
      rw [hsp, if_pos rfl] at hz
      simp only [lits, List.length_map, List.length_take, List.length_drop] at this
      omega
  obtain ⟨a', l', c', rfl, hl⟩ := hform
  obtain ⟨L, _, hr⟩ := bytes_in (a := a') (len := l') (cap := c') ⟨n, by simpa [Value.cells] using h⟩ (fun elems spare e => by
    rw [e] at hk
    have := bytes_small hk
    rw [bytes5]
    simp only [reachBytes]; omega) hsp
  exact ⟨L, by have := hr.slice.1; omega, hr⟩

theorem weights_struct {ds : List (DataW H)} {fs : Array Field} {t : TypeId} (ht : Tryd.prog.underlying t = some (.struct fs)) {j : Nat} {f : Field} {d : DataW H} (hj : fs[j]? = some f) (hd : ds[j]? = some d) :
    ∀ n ∈ d.weights Tryd.prog f.type, n ∈ (DataW.agg ds).weights Tryd.prog t := fun n hn => by
  simp only [DataW.weights, ht]
  exact DataW.weights_mem_each (by simp [hj]) hd n hn

/-- A list of calls that came in. -/
theorem ops_in {W : World} {a : Option Addr} {len cap : Nat} {d : DataW H} {p : List MemPlace} {sp : Nat → Bool} {hd : Bool} {base : Nat}
    (h : DataW.Trod enc Tryd.prog W base sp hd 62 (.slice a len cap) d p) (hsp : ∀ k, sp k = true) (hs : ∀ n ∈ d.weights Tryd.prog 62, n ≤ reachBytes) (hk : Rows.uptoBulk d ≤ 1048576) :
    ∃ os, RdO W (.slice a len cap) os := by
  obtain ⟨fuel, hf⟩ := h
  rcases Go.Deep.open_slice Tryd.underlying62 hf with ⟨hcs, _⟩ | ⟨x, l, c, m, n, D, Pl, hcs, _, hl, hm, hmm, hx, hV⟩
  · simp [Value.cells] at hcs
    obtain ⟨rfl, rfl, rfl⟩ := hcs
    exact ⟨[], none, 0, rfl, by simp, fun h => by simp at h⟩
  · simp [Value.cells] at hcs
    obtain ⟨rfl, rfl, rfl⟩ := hcs
    rw [hsp, if_pos rfl] at hmm
    subst hmm
    have hd' := congrArg Prod.fst hx
    simp only at hd'
    have hlen : len ≤ 1048576 := by
      rw [hd'] at hk
      have := bytes_small hk
      simp at this
      omega
    have hone : ∀ i, i < len → ∃ o : OpD, o.Ok ∧ OpAt W (x.add (i * 7)) o := by
      intro i hi
      obtain ⟨cs', h1, h2⟩ := hV i (by omega)
      have hin : D i ∈ (List.range len).map D := List.mem_map.2 ⟨i, List.mem_range.2 hi, rfl⟩
      have hbulk : Rows.uptoBulk (D i) ≤ 1048576 := by
        have h3 := bulk_mem hin
        rw [hd'] at hk
        simp only [Rows.uptoBulk] at hk
        omega
      have hweigh : ∀ n ∈ (D i).weights Tryd.prog 66, n ≤ reachBytes := by
        intro n hn
        refine hs n ?_
        rw [hd']
        simp only [DataW.weights, Tryd.underlying62, List.mem_cons, List.mem_append]
        exact .inr (.inl (mem_weightsAll hin n hn))
      rw [cells66] at h1
      obtain ⟨_, hcl, hat⟩ := World.cells?_some h1
      obtain ⟨xs, n', _, hy, _, hxl, hfl⟩ := DataW.trod_struct Tryd.underlying66 h2
      simp only [Prod.mk.injEq] at hy
      rw [hy.1] at hbulk hweigh
      match cs', hcl with
      | [e0, e1, e2, e3, e4, e5, e6], _ =>
        have hxl' : xs.length = 7 := hxl
        match xs, hxl' with
        | [y0, y1, y2, y3, y4, y5, y6], _ =>
          have g0 := hfl 0 _ rfl
          have g1 := hfl 1 _ rfl
          have g2 := hfl 2 _ rfl
          have g3 := hfl 3 _ rfl
          have g4 := hfl 4 _ rfl
          have g5 := hfl 5 _ rfl
          have g6 := hfl 6 _ rfl

          simp [cells3, cells51, cells2, cells22, cells40] at g0 g1 g2 g3 g4 g5 g6
          obtain ⟨z0, q0, _, w0⟩ := DataW.trod_int Tryd.underlying3 g0
          obtain ⟨z1, q1, _, w1⟩ := DataW.trod_int Tryd.underlying51 g1
          obtain ⟨z2, q2, _, w2⟩ := DataW.trod_int Tryd.underlying2 g2
          obtain ⟨z3, q3, _, w3⟩ := DataW.trod_int Tryd.underlying3 g3
          obtain ⟨z4, q4, _, w4⟩ := DataW.trod_int Tryd.underlying3 g4
          simp at q0 q1 q2 q3 q4
          subst q0; subst q1; subst q2; subst q3; subst q4
          have b1 := bd_u64 w1
          have hz2 : ((z1.toNat : Nat) : Int) = z1 := by omega
          have b2 := bd_i64 w2
          have b3 := bd_i64 w3
          have b4 := bd_i64 w4
          have hall : Rows.uptoBulkAll ([y0, y1, y2, y3, y4, y5, y6].map (·.1)) ≤ 1048576 := by simp only [Rows.uptoBulk] at hbulk; omega
          obtain ⟨L, hLl, hL⟩ := bytes_by (d := y5.1) (p := y5.2) g5 (by have := bulk_mem (l := [y0, y1, y2, y3, y4, y5, y6].map (·.1)) (d := y5.1) (by simp); omega) hsp
          have hform : ∃ a' l' c', e6 = .slice a' l' c' := by
            rcases Go.Deep.open_slice1 Tryd.underlying40 cells22 g6 with ⟨hcs, _⟩ | ⟨x', l', c', _, _, _, _, _, hcs, _⟩
            · exact ⟨none, 0, 0, by simpa using hcs⟩
            · exact ⟨some x', l', c', by simpa using hcs⟩
          obtain ⟨a', l', c', rfl⟩ := hform
          obtain ⟨Ls, hLs⟩ := lists_in (a := a') (len := l') (cap := c') (d := y6.1) (p := y6.2) ⟨n', by simpa [Value.cells] using g6⟩ hsp
            (fun n hn => hweigh n (weights_struct (j := 6) (d := y6.1) Tryd.underlying66 rfl rfl n hn))
          refine ⟨⟨z0, z1.toNat, z2, z3, z4, L, Ls⟩, ⟨Is64.mk (show z1.toNat < 18446744073709551616 by omega), b2, b3.1, b4.2, hLl⟩, _, _, ?_, ?_, ?_, ?_, ?_, ?_, ?_, hL, hLs⟩
          · have := hat 0 (by omega)
            rwa [show (x.add (i * 7)).add 0 = x.add (i * 7) by simp [Addr.add]] at this
          · show _ = some (Value.int .u64 ((z1.toNat : Nat) : Int))
            rw [hz2]
            exact hat 1 (by omega)
          · exact hat 2 (by omega)
          · exact hat 3 (by omega)
          · exact hat 4 (by omega)
          · exact hat 5 (by omega)
          · exact hat 6 (by omega)
    haveI : Inhabited OpD := ⟨⟨0, 0, 0, 0, 0, [], []⟩⟩
    obtain ⟨f, hfn⟩ := Go.Deep.choose_lt (α := OpD) hone
    refine ⟨(List.range len).map f, some x, m, by simp, by simp; omega, fun h0 => ⟨x, rfl, fun j o hj => ?_⟩⟩
    have hj' : j < len := by
      have := (List.getElem?_eq_some_iff.1 hj).1
      simpa using this
    obtain rfl : f j = o := by simpa [hj'] using hj
    exact hfn j hj'

end Go.Proofs.YtbobigaifkffoaaDoor
