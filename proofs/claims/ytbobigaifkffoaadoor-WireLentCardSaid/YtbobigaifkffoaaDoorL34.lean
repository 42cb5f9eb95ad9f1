/-
  AN APPEND, AND WHAT OTHER SLICES OF THE SAME ROW KEEP; the walk of the law's helper: tail.
-/
import Derived.Test.YtbobigaifkffoaaDoorL33
import Derived.Test.YtbobigaifkffoaaDoorL31
namespace Go.Proofs.YtbobigaifkffoaaDoor
open Go.RowKit
set_option linter.unusedVariables false
set_option linter.unusedSimpArgs false

/-- What the row behind v keeps: each cell is as it was, or is one of the news in their place. -/
def RowKept (w w' : World) (v : Value) (n m : Nat) (news : List Value) : Prop :=
  ∀ p cur, v.ownBlock = some p → w.heap[p]? = some (.cells cur 5 (0, 0)) → ∃ cur', w'.heap[p]? = some (.cells cur' 5 (0, 0)) ∧ cur'.size = cur.size ∧ ∀ j, cur'[j]? = cur[j]? ∨ (n ≤ j ∧ j < n + m ∧ cur'[j]? = news[j - n]?)

theorem run_app_keep (w : World) (base : Nat) (ty : TypeId) (i : TypeInfo) (hi : Tryd.prog.info? 5 = some i) (hz : i.zero = some (.int .u8 0)) (hsize : i.size = 1) (hby : i.bytes = 1)
    (v : Value) (n : Nat) (xs : List Value) (hown : w.ownsRow base 5 1 v n xs)
    (a : Addr) (m c : Nat) (news : List Value) (hl : news.length = m) (hnews : ∀ j u, news[j]? = some u → w.cell? (a.add j) = some u) (h1 : ∀ u ∈ news, u.oneCell' = true)
    (hb : n + m ≤ 140737555464192) (hbase : base ≤ w.heap.size) :
    ∃ v' w', (Builtin.append_ #[22, 22] ty #[v, .slice (some a) m c]).run Tryd.prog w = .ok v' w' ∧ w'.ownsRow base 5 1 v' (n + m) (xs ++ news) ∧ w.grownBy w' v.ownBlock ∧
      (v'.ownBlock = v.ownBlock ∨ v'.ownBlock = some w.heap.size) ∧ RowKept w w' v n m news := by
  have ht := Tryd.underlying22
  have h63 : n + m ≤ maxLen := by unfold maxLen; omega
  have hxl : xs.length = n := by simpa using hown.1
  have hlen : (xs ++ news).length = (n + m) * 1 := by rw [List.length_append, hxl, hl, Nat.mul_one]
  have grown : ∀ (old : Nat), old < n + m → ∀ (row : Option Nat),
      (w.drew.alloc (.cells (xs.toArray ++ news.toArray ++ Builtin.zeroCells (Value.int .u8 0).cells (grownCap w (n + m) old 5 - (n + m))) 5)).ownsRow base 5 1
        (.slice (some ⟨w.heap.size, 0, none⟩) (n + m) (grownCap w (n + m) old 5)) (n + m) (xs ++ news) ∧
      w.grownBy (w.drew.alloc (.cells (xs.toArray ++ news.toArray ++ Builtin.zeroCells (Value.int .u8 0).cells (grownCap w (n + m) old 5 - (n + m))) 5)) row := by
    intro old ho row
    have hge := grownCap_ge w (n + m) old 5
    refine ⟨⟨hlen, .inr ⟨w.heap.size, _, _, rfl, hbase, heap_alloc_new w.drew _, hge, grownCap_le_maxLen w (n + m) old 5 h63, ?_, ?_⟩⟩, ⟨rfl, rfl, rfl, by simp, fun k hk _ => Go.heap_alloc_old w.drew _ hk⟩⟩
    · simp only [Array.size_append, List.size_toArray, size_zeroCells, hxl, hl]
      show n + m + (grownCap w (n + m) old 5 - (n + m)) * 1 = _
      omega
    · rw [Array.toList_append, Array.toList_append, ← hlen]
      exact List.take_left
  have kept : ∀ (o : Obj), RowKept w (w.drew.alloc o) v n m news := fun o p cur hp hcur =>
    ⟨cur, (Go.heap_alloc_old w.drew _ (Array.getElem?_eq_some_iff.1 hcur).1).trans hcur, rfl, fun j => .inl rfl⟩
  rcases hown.2 with ⟨rfl, rfl⟩ | ⟨g, cap, cur, rfl, hbg, hg, hnc, hcm, hcs, htake⟩
  · obtain rfl : xs = [] := List.eq_nil_of_length_eq_zero hxl
    by_cases hm : m = 0
    · subst hm
      obtain rfl : news = [] := List.eq_nil_of_length_eq_zero hl
      refine ⟨.slice none 0 0, w, ?_, World.ownsRow_nil w base 5 1, ⟨rfl, rfl, rfl, Nat.le_refl _, fun _ _ _ => rfl⟩, .inl rfl, fun p cur hp => by cases hp⟩
      simp [Builtin.append_, run_underlying ht, sizeOf, typeInfo, hi, Builtin.lenOf, Builtin.firstCells, loadCells, loadCellsFrom]
    · have hr := run_append_nil (P := Tryd.prog) w 22 ty 5 i (.int .u8 0) ht hi hz a m c news (by rw [hsize, Nat.mul_one]; exact hl) hnews (by omega) (by omega) (by rw [hby]; omega)
      have hgr := grown 0 (by omega) (Value.ownBlock (.slice none 0 0))
      simp only [Nat.zero_add, List.nil_append, Array.empty_append] at hgr ⊢
      exact ⟨_, _, hr, hgr.1, hgr.2, .inr rfl, fun p cur hp => by cases hp⟩
  · by_cases hroom : n + m ≤ cap
    · have hr := run_append_room (P := Tryd.prog) w 22 ty 5 i ht hi g n cap cur hg a m c news (by rw [hsize, Nat.mul_one]; exact hl) hnews h1 hroom (by rw [hsize, hl]; omega)
      rw [hsize] at hr
      refine ⟨_, _, hr, ⟨hlen, .inr ⟨g, cap, _, rfl, hbg, setRow_heap w g cur _ 5 _ hg, hroom, hcm, ?_, ?_⟩⟩, ⟨rfl, rfl, rfl, by simp, fun k _ hk => setRow_other w g k _ (fun e => hk (by simp [Value.ownBlock, e]))⟩, .inl rfl, ?_⟩
      · simp only [List.size_toArray, List.length_append, List.length_take, List.length_drop, Array.length_toList]
        omega
      · rw [htake, ← hlen]
        exact List.take_left
      · intro p cur0 hp hcur0
        obtain rfl : g = p := by simpa [Value.ownBlock] using hp
        rw [hg] at hcur0
        obtain rfl : cur = cur0 := by simpa using hcur0
        refine ⟨_, setRow_heap w g cur _ 5 _ hg, ?_, fun j => ?_⟩
        · simp only [List.size_toArray, List.length_append, List.length_take, List.length_drop, Array.length_toList]
          omega
        · have hsz : n + m ≤ cur.size := by omega
          rw [List.getElem?_toArray]
          by_cases hj1 : j < n
          · left
            rw [List.append_assoc, List.getElem?_append_left (by simp; omega), List.getElem?_take, if_pos (by omega), Array.getElem?_toList]
          · by_cases hj2 : j < n + m
            · right
              refine ⟨by omega, hj2, ?_⟩
              rw [List.append_assoc, List.getElem?_append_right (by simp; omega), List.getElem?_append_left (by simp; omega)]
              congr 1
              simp; omega
            · left
              rw [List.getElem?_append_right (by simp; omega), List.getElem?_drop, Array.getElem?_toList]
              congr 1
              simp; omega
    · have holds : ∀ j u, xs[j]? = some u → w.cell? ((⟨g, 0, none⟩ : Addr).add j) = some u := hown.cells (g := g) rfl
      have hr := run_append_grow (P := Tryd.prog) w 22 ty 5 i (.int .u8 0) ht hi hz ⟨g, 0, none⟩ n cap xs (by rw [hsize, Nat.mul_one]; exact hxl) holds a m c news (by rw [hsize, Nat.mul_one]; exact hl) hnews (by omega) (by omega) (by
        rw [hby, Nat.mul_one]
        have := nsc_le (need := n + m) (old := cap) (by omega)
        omega)
      have hgr := grown cap (by omega) (Value.ownBlock (.slice (some ⟨g, 0, none⟩) n cap))
      exact ⟨_, _, hr, hgr.1, hgr.2, .inr rfl, kept _⟩

/-- Slices that agree with what is appended stay. -/
theorem own_keep {B : Nat} {w w' : World} {v u : Value} {n : Nat} {M L' : List UInt8} (hg : w.grownBy w' v.ownBlock) (hk : RowKept w w' v n M.length (ebs M)) (h : Own B w u L') (ha : ∀ j, n ≤ j → j < n + M.length → j < L'.length → L'[j]? = M[j - n]?) : Own B w' u L' := by
  by_cases hb : u.ownBlock = v.ownBlock
  · rcases h.2.2 with ⟨rfl, h0⟩ | ⟨g, cap, cur, rfl, hB, hc, hn, hcm, hcs, ht⟩
    · exact ⟨h.1, h.2.1, .inl ⟨rfl, h0⟩⟩
    · obtain ⟨cur', hc', hs', hj'⟩ := hk g cur (by rw [← hb]; rfl) hc
      refine ⟨h.1, h.2.1, .inr ⟨g, cap, cur', rfl, hB, hc', hn, hcm, by omega, ?_⟩⟩
      apply List.ext_getElem?
      intro j
      have h0 : (cur.toList.take (L'.length * 1))[j]? = (ebs L')[j]? := by rw [ht]
      rw [← h0]
      by_cases hj : j < L'.length * 1
      · rw [List.getElem?_take, if_pos hj, List.getElem?_take, if_pos hj, Array.getElem?_toList, Array.getElem?_toList]
        rcases hj' j with e | ⟨h1, h2, e⟩
        · exact e
        · rw [e]
          rw [List.getElem?_take, if_pos hj, Array.getElem?_toList] at h0
          rw [h0]
          simp only [ebs, List.getElem?_map]
          rw [ha j h1 h2 (by omega)]
      · rw [List.getElem?_take, if_neg hj, List.getElem?_take, if_neg hj]
  · refine ⟨h.1, h.2.kept hg ?_⟩
    rcases h.2.2 with ⟨rfl, _⟩ | ⟨g, cap, cur, rfl, _⟩
    · exact .inl rfl
    · exact .inr hb

/-- What an append of M to v, which reads as L, gives. -/
def AppOut (B : Nat) (w w' : World) (v v' : Value) (L M : List UInt8) : Prop :=
  Own B w' v' (L ++ M) ∧ w.grownBy w' v.ownBlock ∧ (v'.ownBlock = v.ownBlock ∨ v'.ownBlock = some w.heap.size) ∧
    ∀ B' u L', Own B' w u L' → (∀ j, L.length ≤ j → j < L.length + M.length → j < L'.length → L'[j]? = M[j - L.length]?) → Own B' w' u L'

theorem run_app_out {w : World} (ty : TypeId) (B : Nat) (v x' : Value) (L M : List UInt8) (hown : Own B w v L) (hrd : Rd w x' M) (hm : 0 < M.length) (hlen : L.length + M.length ≤ 140737555464192) (hbase : B ≤ w.heap.size) :
    ∃ v' w', (Builtin.append_ #[22, 22] ty #[v, x']).run Tryd.prog w = .ok v' w' ∧ AppOut B w w' v v' L M := by
  obtain ⟨i0, hi, hz0, hz1, hz2⟩ := info_parts info5
  obtain ⟨A, cap, rfl, hc, hnil, _, hr⟩ := hrd
  obtain ⟨ad, rfl, hcell⟩ := hr hm
  have hnews : ∀ j u, (ebs M)[j]? = some u → w.cell? (ad.add j) = some u := by
    intro j u hj
    have hjl : j < M.length := by
      rw [← ebs_length]
      exact (List.getElem?_eq_some_iff.1 hj).1
    rw [hcell j hjl]
    rw [← hj]
    simp [ebs, eb, hjl]
  obtain ⟨v', w', hrun, hown', hgr, hl, hk⟩ := run_app_keep w B ty i0 hi hz0 hz1 hz2 v L.length (ebs L) hown.2 ad M.length cap (ebs M) (by simp [ebs]) hnews (ebs_one M) hlen hbase
  exact ⟨v', w', hrun, ⟨by simpa using hlen, by rw [ebs_append, List.length_append]; exact hown'⟩, hgr, hl, fun B' u L' h ha => own_keep hgr hk h ha⟩

/-- 'append(v, x...)', x not empty. -/
theorem wpList_appK {w : World} {ops : Array Oper} {rest : List Oper} {o : Oper} {a : Act} {Q : Exit → Act → World → Prop} (hgd : o.guard = none) (s x : Operand)
    (ho : o.op = .call { callee := .builtin .append, args := #[s, x], argTypes := #[22, 22] }) (B : Nat) (v x' : Value) (L M : List UInt8) (hs : a.eval s = v) (hx : a.eval x = x')
    (hown : Own B w v L) (hrd : Rd w x' M) (hm : 0 < M.length) (hlen : L.length + M.length ≤ 140737555464192) (hbase : B ≤ w.heap.size)
    (h : ∀ v' w', AppOut B w w' v v' L M → wpList Tryd.prog ops Q rest (a.put o.dst v') w') : wpList Tryd.prog ops Q (o :: rest) a w := by
  obtain ⟨v', w', hrun, hout⟩ := run_app_out o.type B v x' L M hown hrd hm hlen hbase
  refine wpList_plain hgd fun K hK => ?_
  unfold Oper.wp execOp
  simp only [ho, resolve, invoke, builtin, Sem.run_bind, Sem.run_pure, Result.andThen_ok, List.map_toArray, List.map_cons, List.map_nil, hs, hx, hrun]
  exact hK _ _ (h v' w' hout)
/-- The same at a step of a region that draws its order. -/
theorem step_appK {w : World} {ops : Array Oper} {o : Oper} {a : Act} {K : Act → World → Prop} {Q : Exit → Act → World → Prop} {E : Prop} (hgd : o.guard = none) (s x : Operand)
    (ho : o.op = .call { callee := .builtin .append, args := #[s, x], argTypes := #[22, 22] }) (B : Nat) (v x' : Value) (L M : List UInt8) (hs : a.eval s = v) (hx : a.eval x = x')
    (hown : Own B w v L) (hrd : Rd w x' M) (hm : 0 < M.length) (hlen : L.length + M.length ≤ 140737555464192) (hbase : B ≤ w.heap.size)
    (h : ∀ v' w', AppOut B w w' v v' L M → K (a.put o.dst v') w') :
    if Region.wanted o (yielded ops a.tmps) = true then Oper.wp Tryd.prog o a w K Q else E := by
  obtain ⟨v', w', hrun, hout⟩ := run_app_out o.type B v x' L M hown hrd hm hlen hbase
  rw [if_pos (by simp [Region.wanted, hgd])]
  unfold Oper.wp execOp
  simp only [ho, resolve, invoke, builtin, Sem.run_bind, Sem.run_pure, Result.andThen_ok, List.map_toArray, List.map_cons, List.map_nil, hs, hx, hrun]
  exact h v' w' hout

end Go.Proofs.YtbobigaifkffoaaDoor
