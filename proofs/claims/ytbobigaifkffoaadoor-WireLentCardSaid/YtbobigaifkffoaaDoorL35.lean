/-
  THE WALK of the law's helper tail; what filled keeps.
-/
import Derived.Test.YtbobigaifkffoaaDoorL34
namespace Go.Proofs.YtbobigaifkffoaaDoor
open Go.RowKit
set_option linter.unusedVariables false
set_option linter.unusedSimpArgs false

/-- The marks of the i-th list: within, and behind. -/
def mk1 (i : Nat) : UInt8 := UInt8.ofNat (1 + i % 250)
def mk2 (i : Nat) : UInt8 := UInt8.ofNat (251 + i % 5)
def sliceLen : Value → Nat
  | .slice _ n _ => n
  | _ => 0

set_option maxRecDepth 100000 in
set_option maxHeartbeats 1000000 in
/-- 'tail': n marks. -/
theorem tail_any (i n : Nat) (w : World) (hi : i ≤ 1099511627776) (hn : n ≤ 1000) :
    Calls Tryd.prog 56 #[.int .i64 i, .int .i64 n] w fun e w' => ∃ A c, e = .returned (.slice A n c) ∧ Own w.heap.size w' (.slice A n c) (List.replicate n (mk2 i)) ∧ Below w.heap.size w w' := by
  obtain ⟨g, hg⟩ : ∃ g, 251 + i % 5 = g := ⟨_, rfl⟩
  have g1 : g < 256 := by omega
  have e1 : ((251 : Int) + (Int.tmod (i : Int) 5)) = (g : Int) := by rw [Int.tmod_eq_emod_of_nonneg (by omega)]; omega
  have e2 : ((251 : Int) + ((i : Int) % 5)) = (g : Int) := by omega
  have HM : Hd (mk2 i = UInt8.ofNat g) := ⟨by rw [← hg]; rfl⟩
  clear hg
  go_enter Tryd.func56, Tryd.ntmps56
  go_wp2_with fail
  go_loopw [5] (fun l wr => ∃ (A : Option Addr) (k c : Nat), l = .slice A k c ∧ k ≤ n ∧ Hd (Own w.heap.size wr (.slice A k c) (List.replicate k (mk2 i))) ∧ Hd (Below w.heap.size w wr)) (fun l _ => n - sliceLen l)
  case atStart => exact ⟨none, 0, 0, rfl, by omega, ⟨Own.nil _ _⟩, ⟨Below.refl _ _⟩⟩
  case round =>
    obtain ⟨A, k, c, rfl, hk, HO, HB⟩ := hrel
    by_cases hlt : k < n
    · have HL : Hd ((List.replicate k (mk2 i)).length + [UInt8.ofNat g].length ≤ 140737555464192) := ⟨by simp; omega⟩
      go_wp2_with (at_builtin; refine wpList_app rfl _ _ rfl w.heap.size _ _ _ [UInt8.ofNat g] rfl rfl (HO.out.alloc _) (Rd.new1 _ _ _ (by simp; omega)) HL.out (hb_alloc HB.out (Nat.le_refl _) _) ?_; intro u1 w2 hown hgr; have HO2 := Hd.mk hown; have HB2 : Hd (Below w.heap.size w w2) := ⟨bel_app HB.out HO.out hgr⟩; clear hown hgr)
      obtain ⟨A2, c2, rfl⟩ := HO2.out.rd.form
      go_roundw
      case rel => exact ⟨A2, k + 1, c2, by simp, by omega, ⟨by have := HO2.out; rw [← HM.out] at this; simpa [List.replicate_succ'] using this⟩, HB2⟩
      case measure => simp [sliceLen]; omega
    · obtain rfl : k = n := by omega
      go_wp2
      go_ret
      exact ⟨A, c, rfl, HO.out, HB.out⟩


/-- n marks, k behind them. -/
def txt (i n k : Nat) : List UInt8 := List.replicate n (mk1 i) ++ List.replicate k (mk2 i)
theorem txt_len (i n k : Nat) : (txt i n k).length = n + k := by simp [txt]
theorem txt_add (i n k m : Nat) : txt i n k ++ List.replicate m (mk2 i) = txt i n (k + m) := by
  unfold txt
  rw [List.append_assoc, List.replicate_append_replicate]
theorem txt_get (i n k j : Nat) (h1 : n ≤ j) (h2 : j < n + k) : (txt i n k)[j]? = some (mk2 i) := by
  unfold txt
  rw [List.getElem?_append_right (by simpa using h1), List.getElem?_replicate, if_pos (by simp; omega)]

/-- Only the blocks of vs, and new ones. -/
structure Touch (vs : List Value) (w w' : World) : Prop where
  os : w'.os = w.os
  tape : w'.tape = w.tape
  output : w'.output = w.output
  size : w.heap.size ≤ w'.heap.size
  block : ∀ q, q < w.heap.size → (∀ i, i < vs.length → (vs.getD i undef).ownBlock ≠ some q) → w'.heap[q]? = w.heap[q]?
theorem Touch.refl (vs : List Value) (w : World) : Touch vs w w := ⟨rfl, rfl, rfl, Nat.le_refl _, fun _ _ _ => rfl⟩
theorem Touch.below {vs : List Value} {w w1 w2 : World} (h : Touch vs w w1) (hb : Below w1.heap.size w1 w2) : Touch vs w w2 :=
  ⟨hb.os.trans h.os, hb.tape.trans h.tape, hb.output.trans h.output, Nat.le_trans h.size hb.size, fun q hq hn => (hb.block q (Nat.lt_of_lt_of_le hq h.size)).trans (h.block q hq hn)⟩
theorem Touch.grown {vs : List Value} {w w1 w2 : World} {row : Option Nat} (h : Touch vs w w1) (hg : w1.grownBy w2 row) (hr : ∀ q, row = some q → w.heap.size ≤ q ∨ ∃ i, i < vs.length ∧ (vs.getD i undef).ownBlock = some q) : Touch vs w w2 :=
  ⟨hg.os.trans h.os, hg.tape.trans h.tape, hg.output.trans h.output, Nat.le_trans h.size hg.size, fun q hq hn => (hg.block q (Nat.lt_of_lt_of_le hq h.size) (fun e => by
    rcases hr q e.symm with h1 | ⟨i, hi, h1⟩
    · omega
    · exact hn i hi h1)).trans (h.block q hq hn)⟩
theorem Touch.set {vs : List Value} {w w1 : World} (h : Touch vs w w1) {i g j : Nat} (hi : i < vs.length) (hg : (vs.getD i undef).ownBlock = some g) (x : Value) : Touch vs w (w1.setCell ⟨g, j, none⟩ x) :=
  ⟨h.os, h.tape, h.output, by simpa using h.size, fun q hq hn => (Below.heap_setCell w1 ⟨g, j, none⟩ x q (fun e => hn i hi (by rw [hg, e]))).trans (h.block q hq hn)⟩
/-- Where vs lies from block m on, the blocks below are as they were. -/
theorem Touch.toBelow {vs : List Value} {w w1 : World} {m : Nat} (h : Touch vs w w1) (hm : m ≤ w.heap.size) (hv : ∀ i, i < vs.length → ∀ q, (vs.getD i undef).ownBlock = some q → m ≤ q) : Below m w w1 :=
  ⟨h.os, h.tape, h.output, h.size, fun q hq => h.block q (by omega) (fun i hi e => by have := hv i hi q e; omega)⟩

theorem OwnV.cellk {B : Nat} {w : World} {g n c : Nat} {vs : List Value} (h : OwnV B w (.slice (some ⟨g, 0, none⟩) n c) vs) {k : Nat} (hk : k < vs.length) : w.cell? ⟨g, k, none⟩ = some (vs.getD k undef) := by
  have h1 : vs[k]? = some (vs.getD k undef) := by rw [List.getD_eq_getElem?_getD, List.getElem?_eq_getElem hk]; rfl
  obtain ⟨g', e, h2, _⟩ := h.at_ k _ h1
  injection e with e
  injection e with e
  subst e
  exact h2
theorem OwnV.setE {B B' : Nat} {w : World} {v u : Value} {vs : List Value} {L : List UInt8} (h : OwnV B w v vs) (h' : Own B' w u L) {g j : Nat} (hg : u.ownBlock = some g) (x : Value) : OwnV B (w.setCell ⟨g, j, none⟩ x) v vs := by
  refine ownsRow_setCell_other h ?_ x
  show v.ownBlock ≠ some g
  intro e
  rcases h.2 with ⟨rfl, _⟩ | ⟨g1, _, _, rfl, _, hh, _⟩
  · cases e
  · rcases h'.2.2 with ⟨rfl, _⟩ | ⟨g2, _, _, rfl, _, hh', _⟩
    · cases hg
    · obtain rfl : g1 = g := by simpa [Value.ownBlock] using e
      obtain rfl : g2 = g1 := by simpa [Value.ownBlock] using hg
      rw [hh] at hh'
      simp at hh'

/-- How many marks stand behind. -/
def cnt (c : Nat) : Nat := if c = 0 then 1 else if c = 1 then 2 else 70
/-- What filled keeps in its second loop, at a world wx of the round that began in wr. -/
structure Fil (w wr wx : World) (B Bl k : Nat) (lv l : Value) (vs us : List Value) (N : Nat → Nat) : Prop where
  more : OwnV w.heap.size wx l us
  list : OwnV Bl wx lv vs
  own : ∀ j, j < vs.length → Own B wx (vs.getD j undef) (txt j (N j) 0)
  grp : ∀ j c, j < k → c < 3 → Own B wx (us.getD (3 * j + c) undef) (txt j (N j) (cnt c))
  touch : Touch vs w wx
  size : wr.heap.size ≤ wx.heap.size
/-- .. and what it knows of the blocks. -/
structure Blk (w wr : World) (k : Nat) (vs us : List Value) : Prop where
  lt : k < vs.length
  apart : ∀ i j, i < j → j < vs.length → ∀ q, (vs.getD i undef).ownBlock = some q → (vs.getD j undef).ownBlock ≠ some q
  old : ∀ j, j < vs.length → ∀ q, (vs.getD j undef).ownBlock = some q → q < w.heap.size
  new : ∀ j c, j < k → c < 3 → ∀ q, (us.getD (3 * j + c) undef).ownBlock = some q → (vs.getD j undef).ownBlock = some q ∨ (w.heap.size ≤ q ∧ q < wr.heap.size)
  size : w.heap.size ≤ wr.heap.size
  len : us.length = 3 * k
/-- A slice of the round's own group. -/
def Mem (wr wx : World) (B k : Nat) (vs : List Value) (N : Nat → Nat) (u : Value) (a : Nat) : Prop :=
  Own B wx u (txt k (N k) a) ∧ ∀ q, u.ownBlock = some q → (vs.getD k undef).ownBlock = some q ∨ wr.heap.size ≤ q
section
variable {w wr wx wy : World} {B Bl k : Nat} {lv l : Value} {vs us : List Value} {N : Nat → Nat}
theorem Fil.below (h : Fil w wr wx B Bl k lv l vs us N) (hb : Below wx.heap.size wx wy) : Fil w wr wy B Bl k lv l vs us N :=
  ⟨h.more.below hb, h.list.below hb, fun j hj => (h.own j hj).below hb, fun j c hj hc => (h.grp j c hj hc).below hb, h.touch.below hb, Nat.le_trans h.size hb.size⟩
theorem Mem.below {u : Value} {a : Nat} (h : Mem wr wx B k vs N u a) (hb : Below wx.heap.size wx wy) : Mem wr wy B k vs N u a := ⟨h.1.below hb, h.2⟩
theorem Fil.mem (h : Fil w wr wx B Bl k lv l vs us N) (hk : Blk w wr k vs us) : Mem wr wx B k vs N (vs.getD k undef) 0 := ⟨h.own k hk.lt, fun q hq => .inl hq⟩
/-- A row of other blocks. -/
theorem own_far {B' : Nat} {u v : Value} {L : List UInt8} (h : Own B' wx u L) (hg : wx.grownBy wy v.ownBlock) (hne : ∀ q, u.ownBlock = some q → v.ownBlock ≠ some q) : Own B' wy u L := by
  refine ⟨h.1, h.2.kept hg ?_⟩
  rcases h.2.2 with ⟨rfl, _⟩ | ⟨q, cap, cur, rfl, _⟩
  · exact .inl rfl
  · exact .inr fun e => hne q rfl e.symm
theorem Fil.app {v v' : Value} {a m : Nat} (h : Fil w wr wx B Bl k lv l vs us N) (hk : Blk w wr k vs us) (hv : Mem wr wx B k vs N v a) (ho : AppOut B wx wy v v' (txt k (N k) a) (List.replicate m (mk2 k))) : Fil w wr wy B Bl k lv l vs us N := by
  obtain ⟨ho1, hg, hl, hkeep⟩ := ho
  refine ⟨ownV_other h.more hv.1 hg, ownV_other h.list hv.1 hg, fun j hj => ?_, fun j c hj hc => ?_, h.touch.grown hg (fun q hq => ?_), Nat.le_trans h.size hg.size⟩
  · by_cases hjk : j = k
    · subst hjk
      exact hkeep _ _ _ (h.own j hj) (fun i h1 _ h3 => by rw [txt_len] at h1 h3; omega)
    · refine own_far (h.own j hj) hg fun q hq hq2 => ?_
      rcases hv.2 q hq2 with h1 | h1
      · rcases Nat.lt_or_gt_of_ne hjk with hlt | hgt
        · exact hk.apart j k hlt hk.lt q hq h1
        · exact hk.apart k j hgt hj q h1 hq
      · have := hk.old j hj q hq
        have := hk.size
        omega
  · have hjl : j < vs.length := Nat.lt_trans hj hk.lt
    refine own_far (h.grp j c hj hc) hg fun q hq hq2 => ?_
    rcases hv.2 q hq2 with h1 | h1
    · rcases hk.new j c hj hc q hq with h2 | h2
      · exact hk.apart j k hj hk.lt q h2 h1
      · have := hk.old k hk.lt q h1
        omega
    · rcases hk.new j c hj hc q hq with h2 | h2
      · have := hk.old j hjl q h2
        have := hk.size
        omega
      · omega
  · rcases hv.2 q hq with h1 | h1
    · exact .inr ⟨k, hk.lt, h1⟩
    · have := hk.size
      exact .inl (by omega)
theorem Mem.app {u v v' : Value} {a a' m : Nat} (h : Mem wr wx B k vs N u a') (ho : AppOut B wx wy v v' (txt k (N k) a) (List.replicate m (mk2 k))) : Mem wr wy B k vs N u a' := by
  refine ⟨ho.2.2.2 _ _ _ h.1 fun j h1 h2 h3 => ?_, h.2⟩
  rw [txt_len] at h1 h2 h3
  rw [List.length_replicate] at h2
  rw [txt_get _ _ _ _ (by omega) h3, txt_len, List.getElem?_replicate, if_pos (by omega)]
theorem Mem.new {v v' : Value} {a m : Nat} (hs : wr.heap.size ≤ wx.heap.size) (h : Mem wr wx B k vs N v a) (ho : AppOut B wx wy v v' (txt k (N k) a) (List.replicate m (mk2 k))) : Mem wr wy B k vs N v' (a + m) := by
  refine ⟨by rw [← txt_add]; exact ho.1, fun q hq => ?_⟩
  rcases ho.2.2.1 with e | e
  · exact h.2 q (by rw [← e]; exact hq)
  · rw [e] at hq
    right
    have : wx.heap.size = q := by simpa using hq
    omega
end

theorem grp_get {us : List Value} {k j c : Nat} {g1 g2 g3 : Value} (hl : us.length = 3 * k) (hj : j < k + 1) (hc : c < 3) :
    (j < k ∧ (us ++ [g1, g2, g3]).getD (3 * j + c) undef = us.getD (3 * j + c) undef) ∨ (j = k ∧ (us ++ [g1, g2, g3]).getD (3 * j + c) undef = if c = 0 then g1 else if c = 1 then g2 else g3) := by
  by_cases h : j < k
  · exact .inl ⟨h, getD_left (by omega)⟩
  · obtain rfl : j = k := by omega
    refine .inr ⟨rfl, ?_⟩
    rw [getD_right (by omega), hl, show 3 * j + c - 3 * j = c by omega]
    match c, hc with
    | 0, _ => rfl
    | 1, _ => rfl
    | 2, _ => rfl
section
variable {w wr wx wy : World} {B Bl k : Nat} {lv l l' g1 g2 g3 : Value} {vs us : List Value} {N : Nat → Nat}
theorem mem_pick (m1 : Mem wr wx B k vs N g1 1) (m2 : Mem wr wx B k vs N g2 2) (m3 : Mem wr wx B k vs N g3 70) (c : Nat) : Mem wr wx B k vs N (if c = 0 then g1 else if c = 1 then g2 else g3) (cnt c) := by
  unfold cnt
  by_cases h0 : c = 0
  · simp only [h0, if_true]; exact m1
  · by_cases h1 : c = 1
    · simp only [h1, if_true]; exact m2
    · simp only [h0, h1, if_false]; exact m3
theorem Fil.next (h : Fil w wr wx B Bl k lv l vs us N) (hk : Blk w wr k vs us) (hlv : ∀ q, lv.ownBlock = some q → q < w.heap.size) (m1 : Mem wr wx B k vs N g1 1) (m2 : Mem wr wx B k vs N g2 2) (m3 : Mem wr wx B k vs N g3 70) {o : Obj}
    (hown : OwnV w.heap.size wy l' (us ++ [g1, g2, g3])) (hg : (wx.alloc o).grownBy wy l.ownBlock) : Fil w wy wy B Bl (k + 1) lv l' vs (us ++ [g1, g2, g3]) N := by
  have hm := h.more.alloc o
  refine ⟨hown, (h.list.alloc o).other hg (fun q hq hq2 => ?_), fun j hj => own_other ((h.own j hj).alloc o) hm hg, fun j c hj hc => ?_, ?_, Nat.le_refl _⟩
  · have := hlv q hq
    have := (World.ownsRow.lt h.more q hq2).1
    omega
  · rcases grp_get (g1 := g1) (g2 := g2) (g3 := g3) hk.len hj hc with ⟨h1, e⟩ | ⟨rfl, e⟩
    · rw [e]
      exact own_other ((h.grp j c h1 hc).alloc o) hm hg
    · rw [e]
      exact own_other ((mem_pick m1 m2 m3 c).1.alloc o) hm hg
  · refine (h.touch.below ((Below.refl _ _).alloc (Nat.le_refl _) o)).grown hg fun q hq => .inl (World.ownsRow.lt h.more q hq).1
theorem Fil.newBlk (hk : Blk w wr k vs us) (m1 : Mem wr wx B k vs N g1 1) (m2 : Mem wr wx B k vs N g2 2) (m3 : Mem wr wx B k vs N g3 70) :
    ∀ j c, j < k + 1 → c < 3 → ∀ q, ((us ++ [g1, g2, g3]).getD (3 * j + c) undef).ownBlock = some q → (vs.getD j undef).ownBlock = some q ∨ w.heap.size ≤ q := by
  intro j c hj hc q hq
  rcases grp_get (g1 := g1) (g2 := g2) (g3 := g3) hk.len hj hc with ⟨h1, e⟩ | ⟨rfl, e⟩
  · rw [e] at hq
    rcases hk.new j c h1 hc q hq with h | h
    · exact .inl h
    · exact .inr h.1
  · rw [e] at hq
    rcases (mem_pick m1 m2 m3 c).2 q hq with h | h
    · exact .inl h
    · have := hk.size
      exact .inr (by omega)
end

end Go.Proofs.YtbobigaifkffoaaDoor
