/-
  LISTS OF LISTS OF BYTE SLICES of the call's own; an append to a list, and what shares its row.
-/
import Derived.Test.YtbobigaifkffoaaDoorL38
namespace Go.Proofs.YtbobigaifkffoaaDoor
open Go.RowKit
set_option linter.unusedVariables false
set_option linter.unusedSimpArgs false

theorem info40 : (Tryd.prog.info? 40).map (fun i => (i.zero, i.size, i.bytes)) = some (some (.slice none 0 0), 1, 24) := by kernel_rfl

/-! Rows of any kind. -/
theorem rows_ne {B B' : Nat} {w : World} {e e' : TypeId} {v v' : Value} {n n' : Nat} {xs xs' : List Value} (h : w.ownsRow B e 1 v n xs) (h' : w.ownsRow B' e' 1 v' n' xs') (he : e ≠ e') : ∀ q, v.ownBlock = some q → v'.ownBlock ≠ some q := by
  intro q hq hq'
  rcases h.2 with ⟨rfl, _⟩ | ⟨g1, _, _, rfl, _, hh, _⟩
  · cases hq
  · rcases h'.2 with ⟨rfl, _⟩ | ⟨g2, _, _, rfl, _, hh', _⟩
    · cases hq'
    · obtain rfl : g1 = q := by simpa [Value.ownBlock] using hq
      obtain rfl : g2 = g1 := by simpa [Value.ownBlock] using hq'
      rw [hh] at hh'
      simp at hh'
      exact he hh'.2
theorem row_other {B : Nat} {w w1 : World} {e : TypeId} {v : Value} {n : Nat} {xs : List Value} {row : Option Nat} (h : w.ownsRow B e 1 v n xs) (hg : w.grownBy w1 row) (hne : ∀ q, v.ownBlock = some q → row ≠ some q) : w1.ownsRow B e 1 v n xs := by
  refine h.kept hg ?_
  rcases h.2 with ⟨rfl, _⟩ | ⟨q, _, _, rfl, _⟩
  · exact .inl rfl
  · exact .inr fun e => hne q rfl e.symm
theorem row_far {B : Nat} {w : World} {e : TypeId} {v : Value} {n g j : Nat} {xs : List Value} (h : w.ownsRow B e 1 v n xs) (hne : v.ownBlock ≠ some g) (u : Value) : (w.setCell ⟨g, j, none⟩ u).ownsRow B e 1 v n xs := ownsRow_setCell_other h hne u

/-- A block that holds just these cells. -/
def Blo (w : World) (g : Nat) (t : TypeId) (cs : Array Value) : Prop := w.heap[g]? = some (.cells cs t (0, 0))
theorem Blo.new (w : World) (cs : Array Value) (t : TypeId) : Blo (w.alloc (.cells cs t)) w.heap.size t cs := heap_new w _
theorem Blo.below {w w1 : World} {g : Nat} {t : TypeId} {cs : Array Value} (h : Blo w g t cs) (hb : Below w.heap.size w w1) : Blo w1 g t cs := (hb.block g (Array.getElem?_eq_some_iff.1 h).1).trans h
theorem Blo.lt {w : World} {g : Nat} {t : TypeId} {cs : Array Value} (h : Blo w g t cs) : g < w.heap.size := (Array.getElem?_eq_some_iff.1 h).1
theorem Blo.set {w : World} {g : Nat} {t : TypeId} {cs : Array Value} (h : Blo w g t cs) (j : Nat) (u : Value) : Blo (w.setCell ⟨g, j, none⟩ u) g t (cs.setIfInBounds j u) := heap_setCell_same w g j cs t u h
theorem Blo.far {w : World} {g q j : Nat} {t : TypeId} {cs : Array Value} (h : Blo w g t cs) (hne : g ≠ q) (u : Value) : Blo (w.setCell ⟨q, j, none⟩ u) g t cs := (heap_setCell_other w ⟨q, j, none⟩ g u hne).trans h
theorem Blo.grown {w w1 : World} {g : Nat} {t : TypeId} {cs : Array Value} {row : Option Nat} (h : Blo w g t cs) (hg : w.grownBy w1 row) (hne : row ≠ some g) : Blo w1 g t cs := (hg.block g h.lt (fun e => hne e.symm)).trans h
theorem Blo.at_ {w : World} {g : Nat} {t : TypeId} {cs : Array Value} (h : Blo w g t cs) (j : Nat) (v : Value) (hv : cs[j]? = some v) : w.cell? ⟨g, j, none⟩ = some v := by rw [cell_of_row w g j cs t (0, 0) h]; exact hv
theorem Blo.frozen {w : World} {g : Nat} {t : TypeId} {cs : Array Value} (h : Blo w g t cs) (j : Nat) : w.frozen? ⟨g, j, none⟩ = false := frozen_of_row w g j cs t h
theorem Blo.ne {B : Nat} {w : World} {g : Nat} {t e : TypeId} {cs : Array Value} {v : Value} {n : Nat} {xs : List Value} (h : Blo w g t cs) (h' : w.ownsRow B e 1 v n xs) (he : e ≠ t) : v.ownBlock ≠ some g := by
  intro hq
  rcases h'.2 with ⟨rfl, _⟩ | ⟨g2, _, _, rfl, _, hh', _⟩
  · cases hq
  · obtain rfl : g2 = g := by simpa [Value.ownBlock] using hq
    rw [show w.heap[g2]? = _ from h] at hh'
    simp at hh'
    exact he hh'.2.symm

/-- What the row behind a list keeps. -/
def RowKeptV (w w' : World) (v : Value) (n m : Nat) (news : List Value) : Prop :=
  ∀ p cur, v.ownBlock = some p → w.heap[p]? = some (.cells cur 22 (0, 0)) → ∃ cur', w'.heap[p]? = some (.cells cur' 22 (0, 0)) ∧ cur'.size = cur.size ∧ ∀ j, cur'[j]? = cur[j]? ∨ (n ≤ j ∧ j < n + m ∧ cur'[j]? = news[j - n]?)

theorem run_app_keepV (w : World) (base : Nat) (ty : TypeId) (i : TypeInfo) (hi : Tryd.prog.info? 22 = some i) (hz : i.zero = some (.slice none 0 0)) (hsize : i.size = 1) (hby : i.bytes = 24)
    (v : Value) (n : Nat) (xs : List Value) (hown : w.ownsRow base 22 1 v n xs)
    (a : Addr) (m c : Nat) (news : List Value) (hl : news.length = m) (hnews : ∀ j u, news[j]? = some u → w.cell? (a.add j) = some u) (h1 : ∀ u ∈ news, u.oneCell' = true)
    (hb : n + m ≤ 1099511627776) (hbase : base ≤ w.heap.size) :
    ∃ v' w', (Builtin.append_ #[40, 40] ty #[v, .slice (some a) m c]).run Tryd.prog w = .ok v' w' ∧ w'.ownsRow base 22 1 v' (n + m) (xs ++ news) ∧ w.grownBy w' v.ownBlock ∧
      (v'.ownBlock = v.ownBlock ∨ v'.ownBlock = some w.heap.size) ∧ RowKeptV w w' v n m news := by
  have ht := Tryd.underlying40
  have h63 : n + m ≤ maxLen := by unfold maxLen; omega
  have hxl : xs.length = n := by simpa using hown.1
  have hlen : (xs ++ news).length = (n + m) * 1 := by rw [List.length_append, hxl, hl, Nat.mul_one]
  have grown : ∀ (old : Nat), old < n + m → ∀ (row : Option Nat),
      (w.drew.alloc (.cells (xs.toArray ++ news.toArray ++ Builtin.zeroCells (Value.slice none 0 0).cells (grownCap w (n + m) old 22 - (n + m))) 22)).ownsRow base 22 1
        (.slice (some ⟨w.heap.size, 0, none⟩) (n + m) (grownCap w (n + m) old 22)) (n + m) (xs ++ news) ∧
      w.grownBy (w.drew.alloc (.cells (xs.toArray ++ news.toArray ++ Builtin.zeroCells (Value.slice none 0 0).cells (grownCap w (n + m) old 22 - (n + m))) 22)) row := by
    intro old ho row
    have hge := grownCap_ge w (n + m) old 22
    refine ⟨⟨hlen, .inr ⟨w.heap.size, _, _, rfl, hbase, heap_alloc_new w.drew _, hge, grownCap_le_maxLen w (n + m) old 22 h63, ?_, ?_⟩⟩, ⟨rfl, rfl, rfl, by simp, fun k hk _ => Go.heap_alloc_old w.drew _ hk⟩⟩
    · simp only [Array.size_append, List.size_toArray, size_zeroCells, hxl, hl]
      show n + m + (grownCap w (n + m) old 22 - (n + m)) * 1 = _
      omega
    · rw [Array.toList_append, Array.toList_append, ← hlen]
      exact List.take_left
  have kept : ∀ (o : Obj), RowKeptV w (w.drew.alloc o) v n m news := fun o p cur hp hcur =>
    ⟨cur, (Go.heap_alloc_old w.drew _ (Array.getElem?_eq_some_iff.1 hcur).1).trans hcur, rfl, fun j => .inl rfl⟩
  rcases hown.2 with ⟨rfl, rfl⟩ | ⟨g, cap, cur, rfl, hbg, hg, hnc, hcm, hcs, htake⟩
  · obtain rfl : xs = [] := List.eq_nil_of_length_eq_zero hxl
    by_cases hm : m = 0
    · subst hm
      obtain rfl : news = [] := List.eq_nil_of_length_eq_zero hl
      refine ⟨.slice none 0 0, w, ?_, World.ownsRow_nil w base 22 1, ⟨rfl, rfl, rfl, Nat.le_refl _, fun _ _ _ => rfl⟩, .inl rfl, fun p cur hp => by cases hp⟩
      simp [Builtin.append_, run_underlying ht, sizeOf, typeInfo, hi, Builtin.lenOf, Builtin.firstCells, loadCells, loadCellsFrom]
    · have hr := run_append_nil (P := Tryd.prog) w 40 ty 22 i (.slice none 0 0) ht hi hz a m c news (by rw [hsize, Nat.mul_one]; exact hl) hnews (by omega) (by omega) (by rw [hby]; omega)
      have hgr := grown 0 (by omega) (Value.ownBlock (.slice none 0 0))
      simp only [Nat.zero_add, List.nil_append, Array.empty_append] at hgr ⊢
      exact ⟨_, _, hr, hgr.1, hgr.2, .inr rfl, fun p cur hp => by cases hp⟩
  · by_cases hroom : n + m ≤ cap
    · have hr := run_append_room (P := Tryd.prog) w 40 ty 22 i ht hi g n cap cur hg a m c news (by rw [hsize, Nat.mul_one]; exact hl) hnews h1 hroom (by rw [hsize, hl]; omega)
      rw [hsize] at hr
      refine ⟨_, _, hr, ⟨hlen, .inr ⟨g, cap, _, rfl, hbg, setRow_heap w g cur _ 22 _ hg, hroom, hcm, ?_, ?_⟩⟩, ⟨rfl, rfl, rfl, by simp, fun k _ hk => setRow_other w g k _ (fun e => hk (by simp [Value.ownBlock, e]))⟩, .inl rfl, ?_⟩
      · simp only [List.size_toArray, List.length_append, List.length_take, List.length_drop, Array.length_toList]
        omega
      · rw [htake, ← hlen]
        exact List.take_left
      · intro p cur0 hp hcur0
        obtain rfl : g = p := by simpa [Value.ownBlock] using hp
        rw [hg] at hcur0
        obtain rfl : cur = cur0 := by simpa using hcur0
        refine ⟨_, setRow_heap w g cur _ 22 _ hg, ?_, fun j => ?_⟩
        · simp only [List.size_toArray, List.length_append, List.length_take, List.length_drop, Array.length_toList]
          omega
        · have hsz : n + m ≤ cur.size := by omega
          rw [List.getElem?_toArray]
          by_cases hj1 : j < n
          · left
            rw [List.append_assoc, List.getElem?_append_left (by simp; omega), List.getElem?_take, if_pos (by omega), Array.getElem?_toList]
          · by_cases hj2 : j < n + m
            · right
              refine ⟨by omega, hj2, ?_⟩
              rw [List.append_assoc, List.getElem?_append_right (by simp; omega), List.getElem?_append_left (by simp; omega)]
              congr 1
              simp; omega
            · left
              rw [List.getElem?_append_right (by simp; omega), List.getElem?_drop, Array.getElem?_toList]
              congr 1
              simp; omega
    · have holds : ∀ j u, xs[j]? = some u → w.cell? ((⟨g, 0, none⟩ : Addr).add j) = some u := hown.cells (g := g) rfl
      have hr := run_append_grow (P := Tryd.prog) w 40 ty 22 i (.slice none 0 0) ht hi hz ⟨g, 0, none⟩ n cap xs (by rw [hsize, Nat.mul_one]; exact hxl) holds a m c news (by rw [hsize, Nat.mul_one]; exact hl) hnews (by omega) (by omega) (by
        rw [hby]
        have := nsc_le (need := n + m) (old := cap) (by omega)
        omega)
      have hgr := grown cap (by omega) (Value.ownBlock (.slice (some ⟨g, 0, none⟩) n cap))
      exact ⟨_, _, hr, hgr.1, hgr.2, .inr rfl, kept _⟩

/-- A list no longer than what was appended to stays. -/
theorem ownV_keep {B : Nat} {w w' : World} {v u : Value} {n m : Nat} {news us : List Value} (hg : w.grownBy w' v.ownBlock) (hk : RowKeptV w w' v n m news) (h : OwnV B w u us) (ha : us.length ≤ n) : OwnV B w' u us := by
  by_cases hb : u.ownBlock = v.ownBlock
  · rcases h.2 with ⟨rfl, h0⟩ | ⟨g, cap, cur, rfl, hB, hc, hn, hcm, hcs, ht⟩
    · exact ⟨h.1, .inl ⟨rfl, h0⟩⟩
    · obtain ⟨cur', hc', hs', hj'⟩ := hk g cur (by rw [← hb]; rfl) hc
      refine ⟨h.1, .inr ⟨g, cap, cur', rfl, hB, hc', hn, hcm, by omega, ?_⟩⟩
      apply List.ext_getElem?
      intro j
      have h0 : (cur.toList.take (us.length * 1))[j]? = us[j]? := by rw [ht]
      rw [← h0]
      by_cases hj : j < us.length * 1
      · rw [List.getElem?_take, if_pos hj, List.getElem?_take, if_pos hj, Array.getElem?_toList, Array.getElem?_toList]
        rcases hj' j with e | ⟨h1, _, _⟩
        · exact e
        · omega
      · rw [List.getElem?_take, if_neg hj, List.getElem?_take, if_neg hj]
  · refine World.ownsRow.kept h hg ?_
    rcases h.2 with ⟨rfl, _⟩ | ⟨g, cap, cur, rfl, _⟩
    · exact .inl rfl
    · exact .inr hb

/-- 'append(l, x)' to a list of byte slices: the row's own law. -/
theorem wpList_appVk {w : World} {ops : Array Oper} {rest : List Oper} {o : Oper} {a : Act} {Q : Exit → Act → World → Prop} (hgd : o.guard = none) (s x : Operand)
    (ho : o.op = .call { callee := .builtin .append, args := #[s, x], argTypes := #[40, 40] }) (B : Nat) (v sl : Value) (g c' : Nat) (vs : List Value) (hs : a.eval s = v)
    (hx : a.eval x = .slice (some ⟨g, 0, none⟩) 1 c') (hown : OwnV B w v vs) (hcell : w.cell? ⟨g, 0, none⟩ = some sl) (hone : sl.oneCell' = true) (hlen : vs.length ≤ 1099511627) (hbase : B ≤ w.heap.size)
    (h : ∀ v' w', OwnV B w' v' (vs ++ [sl]) → w.grownBy w' v.ownBlock → (v'.ownBlock = v.ownBlock ∨ v'.ownBlock = some w.heap.size) → (∀ B' u us, OwnV B' w u us → us.length ≤ vs.length → OwnV B' w' u us) → wpList Tryd.prog ops Q rest (a.put o.dst v') w') : wpList Tryd.prog ops Q (o :: rest) a w := by
  obtain ⟨i0, hi, hz0, hz1, hz2⟩ := info_parts info22
  obtain ⟨v', w', hrun, hown', hgr, hl, hk⟩ := run_app_keepV w B o.type i0 hi hz0 hz1 hz2 v vs.length vs hown ⟨g, 0, none⟩ 1 c' [sl] rfl (fun j u hj => by
      match j, hj with
      | 0, hj => simp at hj; subst hj; simpa [Addr.add] using hcell
      | j + 1, hj => simp at hj) (fun u hu => by
      simp at hu
      subst hu
      exact hone) (by omega) hbase
  refine wpList_plain hgd fun K hK => ?_
  unfold Oper.wp execOp
  simp only [ho, resolve, invoke, builtin, Sem.run_bind, Sem.run_pure, Result.andThen_ok, List.map_toArray, List.map_cons, List.map_nil, hs, hx, hrun]
  exact hK _ _ (h v' w' (by unfold OwnV; rw [List.length_append]; exact hown') hgr hl fun B' u us hu hul => ownV_keep hgr hk hu hul)

/-! Lists of lists. -/
/-- v, a list of lists, is a row of the call's own and holds the values vs. -/
def OwnW (B : Nat) (w : World) (v : Value) (vs : List Value) : Prop := w.ownsRow B 40 1 v vs.length vs
theorem OwnW.nil (B : Nat) (w : World) : OwnW B w (.slice none 0 0) [] := World.ownsRow_nil _ _ _ _
theorem OwnW.below {B : Nat} {w w1 : World} {v : Value} {vs : List Value} (h : OwnW B w v vs) (hb : Below w.heap.size w w1) : OwnW B w1 v vs := ownsRow_below h hb
theorem OwnW.form {B : Nat} {w : World} {v : Value} {vs : List Value} (h : OwnW B w v vs) : ∃ A c, v = .slice A vs.length c ∧ vs.length ≤ c ∧ (A = none → c = 0) := by
  rcases h.2 with ⟨rfl, h0⟩ | ⟨g, cap, cur, rfl, _, _, hn, _⟩
  · exact ⟨none, 0, by rw [h0], by omega, fun _ => rfl⟩
  · exact ⟨_, cap, rfl, hn, fun h => by cases h⟩
theorem OwnW.cells {B : Nat} {w : World} {A : Option Addr} {n c : Nat} {vs : List Value} (h : OwnW B w (.slice A n c) vs) (h0 : 0 < vs.length) : ∃ g, A = some ⟨g, 0, none⟩ ∧ B ≤ g ∧ g < w.heap.size ∧ ∀ i, i < vs.length → w.cell? ⟨g, i, none⟩ = some (vs.getD i undef) := by
  have h' : w.ownsRow B 40 1 (.slice A n c) vs.length vs := h
  obtain ⟨g, c', e, hB, hlt⟩ := h'.form h0
  injection e with e1 e2 e3
  subst e1; subst e2; subst e3
  refine ⟨g, rfl, hB, hlt, fun i hi => ?_⟩
  rw [h'.cellAt i (by omega), List.getD_eq_getElem?_getD, List.getElem?_eq_getElem hi]; rfl
/-- 'append(l, x)' to a list of lists. -/
theorem wpList_appW {w : World} {ops : Array Oper} {rest : List Oper} {o : Oper} {a : Act} {Q : Exit → Act → World → Prop} (hgd : o.guard = none) (s x : Operand)
    (ho : o.op = .call { callee := .builtin .append, args := #[s, x], argTypes := #[49, 49] }) (B : Nat) (v sl : Value) (g c' : Nat) (vs : List Value) (hs : a.eval s = v)
    (hx : a.eval x = .slice (some ⟨g, 0, none⟩) 1 c') (hown : OwnW B w v vs) (hcell : w.cell? ⟨g, 0, none⟩ = some sl) (hone : sl.oneCell' = true) (hlen : vs.length ≤ 1000) (hbase : B ≤ w.heap.size)
    (h : ∀ v' w', OwnW B w' v' (vs ++ [sl]) → w.grownBy w' v.ownBlock → wpList Tryd.prog ops Q rest (a.put o.dst v') w') : wpList Tryd.prog ops Q (o :: rest) a w := by
  obtain ⟨i0, hi, hz0, hz1, hz2⟩ := info_parts info40
  refine wpList_append_own w hgd s x 49 ho B 40 i0 (.slice none 0 0) 1 24 Tryd.underlying49 hi hz0 hz1 hz2 rfl (by decide) v vs.length vs hs hown ⟨g, 0, none⟩ 1 c' [sl] hx rfl ?_ ?_ (by unfold maxLen; omega) (by omega) hbase ?_
  · intro j u hj
    match j, hj with
    | 0, hj => simp at hj; subst hj; simpa [Addr.add] using hcell
    | j + 1, hj => simp at hj
  · intro u hu
    simp at hu
    subst hu
    exact hone
  · intro v' w' h1 h2 _
    exact h v' w' (by unfold OwnW; rw [List.length_append]; exact h1) h2

theorem Own.farB {B : Nat} {w : World} {v : Value} {L : List UInt8} {g j : Nat} {t : TypeId} {cs : Array Value} (h : Own B w v L) (hb : Blo w g t cs) (h5 : 5 ≠ t) (u : Value) : Own B (w.setCell ⟨g, j, none⟩ u) v L := ⟨h.1, row_far h.2 (hb.ne h.2 h5) u⟩

/-! A list of the call's own, with what it holds. -/
def Lst (B : Nat) (w : World) (v : Value) (Ls : List (List UInt8)) : Prop :=
  ∃ vs, OwnV B w v vs ∧ vs.length = Ls.length ∧ ∀ i, i < Ls.length → Own B w (vs.getD i undef) (Ls.getD i [])
theorem Lst.below {B : Nat} {w w1 : World} {v : Value} {Ls : List (List UInt8)} (h : Lst B w v Ls) (hb : Below w.heap.size w w1) : Lst B w1 v Ls := by
  obtain ⟨vs, h1, h2, h3⟩ := h
  exact ⟨vs, h1.below hb, h2, fun i hi => (h3 i hi).below hb⟩
theorem Lst.mono {B B' : Nat} {w : World} {v : Value} {Ls : List (List UInt8)} (h : Lst B w v Ls) (hb : B' ≤ B) : Lst B' w v Ls := by
  obtain ⟨vs, h1, h2, h3⟩ := h
  exact ⟨vs, h1.mono hb, h2, fun i hi => (h3 i hi).mono hb⟩
theorem Lst.alloc {B : Nat} {w : World} {v : Value} {Ls : List (List UInt8)} (h : Lst B w v Ls) (o : Obj) : Lst B (w.alloc o) v Ls := h.below ((Below.refl _ _).alloc (Nat.le_refl _) o)
theorem Lst.rdl {B : Nat} {w : World} {v : Value} {Ls : List (List UInt8)} (h : Lst B w v Ls) (hn : Ls.length ≤ 140737555464192) : RdL w v Ls := by
  obtain ⟨vs, h1, h2, h3⟩ := h
  exact h1.rdl h2 hn fun i hi => (h3 i hi).rd
theorem Lst.form {B : Nat} {w : World} {v : Value} {Ls : List (List UInt8)} (h : Lst B w v Ls) : ∃ A c, v = .slice A Ls.length c := by
  obtain ⟨vs, h1, h2, _⟩ := h
  obtain ⟨A, c, e, _⟩ := h1.form
  exact ⟨A, c, by rw [← h2]; exact e⟩
theorem Lst.lt {B : Nat} {w : World} {v : Value} {Ls : List (List UInt8)} (h : Lst B w v Ls) : ∀ q, v.ownBlock = some q → B ≤ q ∧ q < w.heap.size := by
  obtain ⟨vs, h1, _⟩ := h
  exact fun q hq => World.ownsRow.lt h1 q hq
/-- A store into a block of another kind. -/
theorem Lst.far {B : Nat} {w : World} {v : Value} {Ls : List (List UInt8)} {g j : Nat} {t : TypeId} {cs : Array Value} (h : Lst B w v Ls) (hb : Blo w g t cs) (h5 : 5 ≠ t) (h22 : 22 ≠ t) (u : Value) : Lst B (w.setCell ⟨g, j, none⟩ u) v Ls := by
  obtain ⟨vs, h1, h2, h3⟩ := h
  exact ⟨vs, row_far h1 (hb.ne h1 h22) u, h2, fun i hi => ⟨(h3 i hi).1, row_far (h3 i hi).2 (hb.ne (h3 i hi).2 h5) u⟩⟩
/-- A row of another list that grew. -/
theorem Lst.other {B B' : Nat} {w w1 : World} {v v' : Value} {vs' : List Value} {Ls : List (List UInt8)} (h : Lst B w v Ls) (h' : OwnV B' w v' vs') (hg : w.grownBy w1 v'.ownBlock) (hne : ∀ q, v.ownBlock = some q → v'.ownBlock ≠ some q) : Lst B w1 v Ls := by
  obtain ⟨vs, h1, h2, h3⟩ := h
  exact ⟨vs, h1.other hg hne, h2, fun i hi => own_other (h3 i hi) h' hg⟩
/-- A list of lists that grew. -/
theorem Lst.otherW {B B' : Nat} {w w1 : World} {v v' : Value} {vs' : List Value} {Ls : List (List UInt8)} (h : Lst B w v Ls) (h' : OwnW B' w v' vs') (hg : w.grownBy w1 v'.ownBlock) : Lst B w1 v Ls := by
  obtain ⟨vs, h1, h2, h3⟩ := h
  exact ⟨vs, row_other h1 hg (rows_ne h1 h' (by decide)), h2, fun i hi => ⟨(h3 i hi).1, row_other (h3 i hi).2 hg (rows_ne (h3 i hi).2 h' (by decide))⟩⟩

end Go.Proofs.YtbobigaifkffoaaDoor
