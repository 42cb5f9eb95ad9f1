/-
  What WireLent keeps where it writes into its lists and lengthens them.
-/
import Derived.Test.YtbobigaifkffoaaDoorL39
namespace Go.Proofs.YtbobigaifkffoaaDoor
open Go.RowKit
set_option linter.unusedVariables false
set_option linter.unusedSimpArgs false

theorem Lst.at_ {B : Nat} {w : World} {A : Option Addr} {n c : Nat} {Ls : List (List UInt8)} (h : Lst B w (.slice A n c) Ls) (i : Nat) (L : List UInt8) (hi : Ls[i]? = some L) :
    ∃ g A1 c1, A = some ⟨g, 0, none⟩ ∧ w.cell? ⟨g, i, none⟩ = some (.slice A1 L.length c1) ∧ w.frozen? ⟨g, i, none⟩ = false ∧ Rd w (.slice A1 L.length c1) L := by
  obtain ⟨vs, h1, h2, h3⟩ := h
  obtain ⟨hil, rfl⟩ := List.getElem?_eq_some_iff.1 hi
  have ho := h3 i hil
  rw [show Ls.getD i [] = Ls[i] by rw [List.getD_eq_getElem?_getD, List.getElem?_eq_getElem hil]; rfl] at ho
  obtain ⟨A1, c1, e⟩ := ho.rd.form
  have hv : vs[i]? = some (vs.getD i undef) := by rw [List.getD_eq_getElem?_getD, List.getElem?_eq_getElem (by omega)]; rfl
  obtain ⟨g, e1, e2, e3, _⟩ := h1.at_ i _ hv
  rw [e] at e2
  exact ⟨g, A1, c1, e1, e2, e3, by rw [← e]; exact ho.rd⟩
/-- A store of a slice into the list. -/
theorem Lst.store {B : Nat} {w : World} {g n c i : Nat} {Ls : List (List UInt8)} {sl : Value} {L : List UInt8} (h : Lst B w (.slice (some ⟨g, 0, none⟩) n c) Ls) (hs : Own B w sl L) (hi : i < Ls.length) : Lst B (w.setCell ⟨g, i, none⟩ sl) (.slice (some ⟨g, 0, none⟩) n c) (Ls.set i L) := by
  obtain ⟨vs, h1, h2, h3⟩ := h
  have hn : n = vs.length := by
    obtain ⟨A, c', e, _⟩ := h1.form
    injection e
  subst hn
  refine ⟨vs.set i sl, ?_, by simpa using h2, fun j hj => ?_⟩
  · unfold OwnV
    rw [List.length_set]
    exact (World.ownsRow.stored h1 i sl).1
  · rw [List.length_set] at hj
    have hne : ∀ {u : Value} {M : List UInt8}, Own B w u M → u.ownBlock ≠ some g := fun hu hq => rows_ne hu.2 h1 (by decide) g hq rfl
    by_cases hij : i = j
    · subst hij
      rw [show (vs.set i sl).getD i undef = sl by simp [List.getD_eq_getElem?_getD, h2, hi], show (Ls.set i L).getD i [] = L by simp [List.getD_eq_getElem?_getD, hi]]
      exact ⟨hs.1, row_far hs.2 (hne hs) sl⟩
    · rw [show (vs.set i sl).getD j undef = vs.getD j undef by simp [List.getD_eq_getElem?_getD, hij], show (Ls.set i L).getD j [] = Ls.getD j [] by simp [List.getD_eq_getElem?_getD, hij]]
      exact ⟨(h3 j hj).1, row_far (h3 j hj).2 (hne (h3 j hj)) sl⟩
/-- .. and what another list keeps. -/
theorem Lst.storeO {B B' : Nat} {w : World} {g n c i : Nat} {v' : Value} {Ls Ls' : List (List UInt8)} (h' : Lst B' w v' Ls') (h : Lst B w (.slice (some ⟨g, 0, none⟩) n c) Ls) (hne : v'.ownBlock ≠ some g) (sl : Value) : Lst B' (w.setCell ⟨g, i, none⟩ sl) v' Ls' := by
  obtain ⟨vs, h1, _⟩ := h
  obtain ⟨vs', k1, k2, k3⟩ := h'
  exact ⟨vs', row_far k1 hne sl, k2, fun j hj => ⟨(k3 j hj).1, row_far (k3 j hj).2 (fun hq => rows_ne (k3 j hj).2 h1 (by decide) g hq rfl) sl⟩⟩
theorem OwnW.storeO {B B' : Nat} {w : World} {g n c i : Nat} {v' : Value} {vals : List Value} {Ls : List (List UInt8)} (h' : OwnW B' w v' vals) (h : Lst B w (.slice (some ⟨g, 0, none⟩) n c) Ls) (sl : Value) : OwnW B' (w.setCell ⟨g, i, none⟩ sl) v' vals := by
  obtain ⟨vs, h1, _⟩ := h
  exact row_far h' (fun hq => rows_ne h' h1 (by decide) g hq rfl) sl

/-- n times the mark of list k. -/
def mkL (n k : Nat) : List (List UInt8) := List.replicate n [UInt8.ofNat (11 + k)]
theorem mkL_len (n k : Nat) : (mkL n k).length = n := by simp [mkL]
theorem mkL_get {n k i : Nat} (h : i < n) : (mkL n k)[i]? = some [UInt8.ofNat (11 + k)] := by simp [mkL, h]
theorem mkL_succ (n k : Nat) : mkL (n + 1) k = mkL n k ++ [[UInt8.ofNat (11 + k)]] := by simp [mkL, List.replicate_succ']
theorem mkL_set {k m : Nat} {Ls : List (List UInt8)} (hm : m < Ls.length) : (mkL m k ++ Ls.drop m).set m [UInt8.ofNat (11 + k)] = mkL (m + 1) k ++ Ls.drop (m + 1) := by
  rw [List.set_append_right _ _ (by rw [mkL_len]; exact Nat.le_refl _), mkL_len, Nat.sub_self, List.drop_eq_getElem_cons hm, mkL_succ, List.append_assoc]
  rfl

/-- What an append to a list gives. -/
def AppV (C : Nat) (w w' : World) (v v' : Value) (vs : List Value) (sl : Value) : Prop :=
  OwnV C w' v' (vs ++ [sl]) ∧ w.grownBy w' v.ownBlock ∧ (v'.ownBlock = v.ownBlock ∨ v'.ownBlock = some w.heap.size) ∧ ∀ B' u us, OwnV B' w u us → us.length ≤ vs.length → OwnV B' w' u us

/-- What the loop that lengthens the lists keeps, at a world wx of the round that began in wr. -/
structure Mor (S : Nat) (wr wx : World) (C k : Nat) (lv l : Value) (vals us : List Value) (n : Nat → Nat) : Prop where
  list : OwnW C wx lv vals
  more : OwnW S wx l us
  own : ∀ j, j < 6 → Lst C wx (vals.getD j undef) (mkL (n j) j)
  grp : ∀ j, j < k → Lst C wx (us.getD j undef) (mkL (n j + 70) j)
  size : wr.heap.size ≤ wx.heap.size
structure BlkM (S : Nat) (wr : World) (k : Nat) (lv : Value) (vals us : List Value) : Prop where
  lt : k < 6
  apart : ∀ i j, i < j → j < 6 → ∀ q, (vals.getD i undef).ownBlock = some q → (vals.getD j undef).ownBlock ≠ some q
  old : ∀ j, j < 6 → ∀ q, (vals.getD j undef).ownBlock = some q → q < S
  new : ∀ j, j < k → ∀ q, (us.getD j undef).ownBlock = some q → (vals.getD j undef).ownBlock = some q ∨ (S ≤ q ∧ q < wr.heap.size)
  size : S ≤ wr.heap.size
  len : us.length = k
  lv : ∀ q, lv.ownBlock = some q → q < S
def MemM (wr wx : World) (C k : Nat) (vals : List Value) (g : Value) (m : Nat) : Prop :=
  Lst C wx g (mkL m k) ∧ ∀ q, g.ownBlock = some q → (vals.getD k undef).ownBlock = some q ∨ wr.heap.size ≤ q
section
variable {S C k : Nat} {wr wx wy : World} {lv l l' g g' : Value} {vals us : List Value} {n : Nat → Nat}
theorem Mor.below (h : Mor S wr wx C k lv l vals us n) (hb : Below wx.heap.size wx wy) : Mor S wr wy C k lv l vals us n :=
  ⟨h.list.below hb, h.more.below hb, fun j hj => (h.own j hj).below hb, fun j hj => (h.grp j hj).below hb, Nat.le_trans h.size hb.size⟩
theorem MemM.below {m : Nat} (h : MemM wr wx C k vals g m) (hb : Below wx.heap.size wx wy) : MemM wr wy C k vals g m := ⟨h.1.below hb, h.2⟩
theorem Mor.app {m : Nat} {vs : List Value} {sl : Value} (h : Mor S wr wx C k lv l vals us n) (hk : BlkM S wr k lv vals us) (hg : MemM wr wx C k vals g m) (hv : OwnV C wx g vs) (hn : n k ≤ vs.length) (ho : AppV C wx wy g g' vs sl) : Mor S wr wy C k lv l vals us n := by
  obtain ⟨ho1, hgr, hl, hkeep⟩ := ho
  refine ⟨row_other h.list hgr (rows_ne h.list hv (by decide)), row_other h.more hgr (rows_ne h.more hv (by decide)), fun j hj => ?_, fun j hj => ?_, Nat.le_trans h.size hgr.size⟩
  · by_cases hjk : j = k
    · subst hjk
      obtain ⟨ws, k1, k2, k3⟩ := h.own j hj
      rw [mkL_len] at k2
      exact ⟨ws, hkeep _ _ _ k1 (by omega), by rw [mkL_len]; exact k2, fun i hi => own_other (k3 i hi) hv hgr⟩
    · refine (h.own j hj).other hv hgr fun q hq hq2 => ?_
      rcases hg.2 q hq2 with h1 | h1
      · rcases Nat.lt_or_gt_of_ne hjk with hlt | hgt
        · exact hk.apart j k hlt hk.lt q hq h1
        · exact hk.apart k j hgt hj q h1 hq
      · have := hk.old j hj q hq
        have := hk.size
        omega
  · have hj6 : j < 6 := Nat.lt_trans hj hk.lt
    refine (h.grp j hj).other hv hgr fun q hq hq2 => ?_
    rcases hg.2 q hq2 with h1 | h1
    · rcases hk.new j hj q hq with h2 | h2
      · exact hk.apart j k hj hk.lt q h2 h1
      · have := hk.old k hk.lt q h1
        omega
    · rcases hk.new j hj q hq with h2 | h2
      · have := hk.old j hj6 q h2
        have := hk.size
        omega
      · omega
theorem MemM.new {m : Nat} {vs : List Value} {sl : Value} (hs : wr.heap.size ≤ wx.heap.size) (hg : MemM wr wx C k vals g m) (hv : OwnV C wx g vs) (hvl : vs.length = m) (he : ∀ i, i < m → Own C wx (vs.getD i undef) [UInt8.ofNat (11 + k)]) (hsl : Own C wx sl [UInt8.ofNat (11 + k)])
    (ho : AppV C wx wy g g' vs sl) : MemM wr wy C k vals g' (m + 1) := by
  obtain ⟨ho1, hgr, hl, hkeep⟩ := ho
  refine ⟨⟨vs ++ [sl], ho1, by rw [mkL_len]; simp [hvl], fun i hi => ?_⟩, fun q hq => ?_⟩
  · rw [mkL_len] at hi
    have e : (mkL (m + 1) k).getD i [] = [UInt8.ofNat (11 + k)] := by rw [List.getD_eq_getElem?_getD, mkL_get hi]; rfl
    rw [e]
    by_cases him : i < m
    · rw [getD_left (by omega)]
      exact own_other (he i him) hv hgr
    · rw [getD_right (by omega), show i - vs.length = 0 by omega]
      exact own_other hsl hv hgr
  · rcases hl with e | e
    · exact hg.2 q (by rw [← e]; exact hq)
    · rw [e] at hq
      right
      have : wx.heap.size = q := by simpa using hq
      omega
theorem Mor.next {o : Obj} (h : Mor S wr wx C k lv l vals us n) (hk : BlkM S wr k lv vals us) (hg : MemM wr wx C k vals g (n k + 70)) (hown : OwnW S wy l' (us ++ [g])) (hgr : (wx.alloc o).grownBy wy l.ownBlock) : Mor S wy wy C (k + 1) lv l' vals (us ++ [g]) n := by
  have hm : OwnW S (wx.alloc o) l us := World.ownsRow.alloc h.more o
  have hlv : OwnW C (wx.alloc o) lv vals := World.ownsRow.alloc h.list o
  refine ⟨row_other hlv hgr (fun q hq hq2 => ?_), hown, fun j hj => ((h.own j hj).alloc o).otherW hm hgr, fun j hj => ?_, Nat.le_refl _⟩
  · have := hk.lv q hq
    have := (World.ownsRow.lt h.more q hq2).1
    omega
  · by_cases hjk : j < k
    · rw [getD_left (by rw [hk.len]; exact hjk)]
      exact ((h.grp j hjk).alloc o).otherW hm hgr
    · obtain rfl : j = k := by omega
      rw [getD_right (by rw [hk.len]; exact Nat.le_refl _), hk.len, Nat.sub_self]
      exact (hg.1.alloc o).otherW hm hgr
theorem Mor.newBlk {m : Nat} (hk : BlkM S wr k lv vals us) (hg : MemM wr wx C k vals g m) : ∀ j, j < k + 1 → ∀ q, ((us ++ [g]).getD j undef).ownBlock = some q → (vals.getD j undef).ownBlock = some q ∨ S ≤ q := by
  intro j hj q hq
  by_cases hjk : j < k
  · rw [getD_left (by rw [hk.len]; exact hjk)] at hq
    exact (hk.new j hjk q hq).imp id fun h => h.1
  · obtain rfl : j = k := by omega
    rw [getD_right (by rw [hk.len]; exact Nat.le_refl _), hk.len, Nat.sub_self] at hq
    rcases hg.2 q hq with h1 | h1
    · exact .inl h1
    · have := hk.size
      exact .inr (by omega)
end

theorem lists_snoc {C s k : Nat} {w6 w7 : World} {l sl : Value} {vals : List Value} {BsK : Nat → List (List UInt8)} (hvl : vals.length = k) (ls : ∀ j, j < k → Lst C w6 (vals.getD j undef) (BsK j)) (l6 : Lst s w6 sl (BsK k)) (hs : C ≤ s) (hW : OwnW C w6 l vals) {o : Obj}
    (hg : (w6.alloc o).grownBy w7 l.ownBlock) : ∀ j, j < k + 1 → Lst C w7 ((vals ++ [sl]).getD j undef) (BsK j) := by
  intro j hj
  have hm : OwnW C (w6.alloc o) l vals := World.ownsRow.alloc hW o
  by_cases hjk : j < k
  · rw [getD_left (by omega)]
    exact ((ls j hjk).alloc o).otherW hm hg
  · obtain rfl : j = k := by omega
    rw [getD_right (by omega), hvl, Nat.sub_self]
    exact ((l6.mono hs).alloc o).otherW hm hg
theorem apart_snoc {s k : Nat} {w6 : World} {sl : Value} {vals : List Value} {Ls : List (List UInt8)} (hvl : vals.length = k) (ap : ∀ i j, i < j → j < k → ∀ q, (vals.getD i undef).ownBlock = some q → (vals.getD j undef).ownBlock ≠ some q)
    (lt : ∀ j, j < k → ∀ q, (vals.getD j undef).ownBlock = some q → q < s) (l6 : Lst s w6 sl Ls) : ∀ i j, i < j → j < k + 1 → ∀ q, ((vals ++ [sl]).getD i undef).ownBlock = some q → ((vals ++ [sl]).getD j undef).ownBlock ≠ some q := by
  intro i j hij hj q hq
  rw [getD_left (by omega)] at hq
  by_cases hjk : j < k
  · rw [getD_left (by omega)]
    exact ap i j hij hjk q hq
  · obtain rfl : j = k := by omega
    rw [getD_right (by omega), hvl, Nat.sub_self]
    intro hq2
    have := lt i hij q hq
    have := (l6.lt q hq2).1
    omega
theorem bel_appW {C : Nat} {wc w6 w7 : World} {l : Value} {vals : List Value} {o : Obj} (h : Below C wc w6) (hC : C ≤ w6.heap.size) (hW : OwnW C w6 l vals) (hg : (w6.alloc o).grownBy w7 l.ownBlock) : Below C wc w7 :=
  (h.alloc hC o).grown hg (by simp; omega) (fun q hq => (World.ownsRow.lt hW q hq).1)

theorem cell_new40 {w : World} {sv : Value} {g : Nat} (hg : g = w.heap.size) : (w.alloc (.cells #[sv] 40)).cell? ⟨g, 0, none⟩ = some sv := by
  subst hg
  exact (Blo.new w #[sv] 40).at_ 0 _ rfl
theorem bel_appW2 {C S : Nat} {wc w6 w7 : World} {l : Value} {vals : List Value} {o : Obj} (h : Below C wc w6) (hC : C ≤ w6.heap.size) (hW : OwnW S w6 l vals) (hS : C ≤ S) (hg : (w6.alloc o).grownBy w7 l.ownBlock) : Below C wc w7 :=
  (h.alloc hC o).grown hg (by simp; omega) (fun q hq => Nat.le_trans hS (World.ownsRow.lt hW q hq).1)

end Go.Proofs.YtbobigaifkffoaaDoor
