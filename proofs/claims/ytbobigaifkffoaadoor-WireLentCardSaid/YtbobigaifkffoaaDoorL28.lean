/-
  THE WALK of the law's helper: plays.
-/
import Derived.Test.YtbobigaifkffoaaDoorL27
import Derived.Outline
namespace Go.Proofs.YtbobigaifkffoaaDoor
open Go.RowKit
set_option linter.unusedVariables false
set_option linter.unusedSimpArgs false

theorem cell_new22g {w : World} {sv : Value} {g : Nat} (hg : g = w.heap.size) : (w.alloc (.cells #[sv] 22)).cell? ⟨g, 0, none⟩ = some sv := by subst hg; exact cell_new22 _ _
theorem Own.new1 {B : Nat} {w : World} (n : Int) (b : UInt8) (h : n = (b.toNat : Int)) (hB : B ≤ w.heap.size) : Own B (w.alloc (.cells #[.int .u8 n] 5)) (.slice (some ⟨w.heap.size, 0, none⟩) 1 1) [b] := by
  subst h
  refine ⟨by simp, rfl, .inr ⟨w.heap.size, 1, _, rfl, hB, heap_new w _, Nat.le_refl _, by decide, rfl, rfl⟩⟩
/-- One more mark behind a list. -/
theorem marks_step {b k : Nat} {wr w2 : World} {l : Value} {ms l1 : List Value} {x : List UInt8} {o2 : Obj} {c : UInt8} {n : Int} (hx : n = (c.toNat : Int)) (hk : ms.length = k) (hm : ∀ j, j < k → Own b wr (ms.getD j undef) [c]) (hl : OwnV b wr l l1) (hb : b ≤ wr.heap.size)
    (hg : ((wr.alloc (.cells #[.int .u8 n] 5)).alloc o2).grownBy w2 l.ownBlock) : ∀ j, j < k + 1 → Own b w2 ((ms ++ [Value.slice (some ⟨wr.heap.size, 0, none⟩) 1 1]).getD j undef) [c] := by
  intro j hj
  have hl2 := (OwnV.alloc hl (.cells #[.int .u8 n] 5)).alloc o2
  by_cases h : j < k
  · rw [List.getD_eq_getElem?_getD, List.getElem?_append_left (by omega), ← List.getD_eq_getElem?_getD]
    exact own_other (((hm j h).alloc _).alloc _) hl2 hg
  · obtain rfl : j = k := by omega
    rw [List.getD_eq_getElem?_getD, List.getElem?_append_right (by omega), hk, Nat.sub_self]
    exact own_other ((Own.new1 n c hx hb).alloc _) hl2 hg
theorem row_ne {l u kept : Value} {n m : Nat} {s : Nat} (h : ∀ q, l.ownBlock = some q → kept.ownBlock ≠ some q) (hk : ∀ q, kept.ownBlock = some q → s ≤ q ∧ q < n) (hm : n ≤ m) (hu : ∀ q, u.ownBlock = some q → l.ownBlock = some q ∨ q = m) :
    ∀ q, u.ownBlock = some q → kept.ownBlock ≠ some q := by
  intro q hq hq2
  rcases hu q hq with h1 | rfl
  · exact h q h1 hq2
  · have := (hk _ hq2).2
    omega
theorem frozen_new (w : World) (cs : Array Value) (t : TypeId) (j : Nat) : (w.alloc (.cells cs t)).frozen? ⟨w.heap.size, j, none⟩ = false := by
  unfold World.frozen?
  rw [show (w.alloc (.cells cs t)).heap[w.heap.size]? = some (.cells cs t) from heap_new w _]
  simp
theorem frozen_below {w w1 : World} {a : Addr} (h : Below w.heap.size w w1) (ha : a.block < w.heap.size) : w1.frozen? a = w.frozen? a := by
  simp only [World.frozen?, h.block _ ha]
theorem marks_at {vs ms l2 : List Value} {n k : Nat} (hl : vs ++ ms = l2) (hv : vs.length = n) (hm : ms.length = 20) (hk : k < 20) : l2[n + k]? = some (ms.getD k undef) := by
  subst hl; subst hv
  rw [List.getElem?_append_right (by omega), show vs.length + k - vs.length = k by omega, List.getD_eq_getElem?_getD, List.getElem?_eq_getElem (by omega)]; rfl
/-- What plays keeps beside its list. -/
def Keeps (b : Nat) (wr : World) (X W : List UInt8) (wide was base ground kept : Value) (ks : List Value) (Ls : List (List UInt8)) : Prop :=
  Own b wr wide X ∧ Own b wr was X ∧ Own b wr base W ∧ Own b wr ground W ∧ OwnV b wr kept ks ∧ ∀ i, i < Ls.length → Own b wr (ks.getD i undef) (Ls.getD i [])
section
variable {b : Nat} {wr w1 : World} {X W : List UInt8} {wide was base ground kept : Value} {ks : List Value} {Ls : List (List UInt8)}
theorem Keeps.below (h : Keeps b wr X W wide was base ground kept ks Ls) (hb : Below wr.heap.size wr w1) : Keeps b w1 X W wide was base ground kept ks Ls :=
  ⟨h.1.below hb, h.2.1.below hb, h.2.2.1.below hb, h.2.2.2.1.below hb, h.2.2.2.2.1.below hb, fun i hi => (h.2.2.2.2.2 i hi).below hb⟩
theorem Keeps.app {v : Value} {vs : List Value} {b' : Nat} (h : Keeps b wr X W wide was base ground kept ks Ls) (h' : OwnV b' wr v vs) (hne : ∀ q, v.ownBlock = some q → kept.ownBlock ≠ some q) (hg : wr.grownBy w1 v.ownBlock) : Keeps b w1 X W wide was base ground kept ks Ls :=
  ⟨own_other h.1 h' hg, own_other h.2.1 h' hg, own_other h.2.2.1 h' hg, own_other h.2.2.2.1 h' hg, h.2.2.2.2.1.other hg (fun q hq hq2 => hne q hq2 hq), fun i hi => own_other (h.2.2.2.2.2 i hi) h' hg⟩
theorem Keeps.set (h : Keeps b wr X W wide was base ground kept ks Ls) {a : Addr} (ha : a.block < b) (u : Value) : Keeps b (wr.setCell a u) X W wide was base ground kept ks Ls :=
  ⟨h.1.set ha u, h.2.1.set ha u, h.2.2.1.set ha u, h.2.2.2.1.set ha u, h.2.2.2.2.1.set ha u, fun i hi => (h.2.2.2.2.2 i hi).set ha u⟩
end

set_option maxRecDepth 100000 in
set_option maxHeartbeats 3000000 in
/-- 'plays'. -/
theorem plays_any (kd i at_ mx : Int) (u : Nat) (vb vp : Value) (B : List UInt8) (Ls : List (List UInt8)) (w : World) (h : Rd w vb B) (hp : RdL w vp Ls) (hT : TabOk w) (hu : Is64 u) (hi : -9223372036854775808 ≤ i ∧ i ≤ 9223372036854775807)
    (ha : -9223372036854775808 ≤ at_) (hm : mx ≤ 9223372036854775807) (hB : B.length ≤ 1099511627000) :
    Calls Tryd.prog 57 #[opV kd u i at_ mx vb vp] w fun e w' => e = .returned (.bool true) ∧ Below w.heap.size w w' := by
  obtain ⟨A0, c0, rfl⟩ := h.form
  obtain ⟨A6, c6, rfl, _⟩ := hp.form
  unfold opV
  go_enter Tryd.func57, Tryd.ntmps57
  go_wp2_with fail
  have BX0 := box_new w #[.int .i64 kd, .int .u64 u, .int .i64 i, .int .i64 at_, .int .i64 mx, .slice A0 B.length c0, .slice A6 Ls.length c6] 66
  have hlt : w.heap.size < (w.alloc (.cells #[.int .i64 kd, .int .u64 u, .int .i64 i, .int .i64 at_, .int .i64 mx, .slice A0 B.length c0, .slice A6 Ls.length c6] 66)).heap.size := by simp
  have hb0 := (Below.refl w.heap.size w).alloc (Nat.le_refl _) (.cells #[.int .i64 kd, .int .u64 u, .int .i64 i, .int .i64 at_, .int .i64 mx, .slice A0 B.length c0, .slice A6 Ls.length c6] 66)
  have hT0 := hT.alloc (.cells #[.int .i64 kd, .int .u64 u, .int .i64 i, .int .i64 at_, .int .i64 mx, .slice A0 B.length c0, .slice A6 Ls.length c6] 66)
  have hR0 := h.alloc (.cells #[.int .i64 kd, .int .u64 u, .int .i64 i, .int .i64 at_, .int .i64 mx, .slice A0 B.length c0, .slice A6 Ls.length c6] 66)
  have hP0 := hp.alloc (.cells #[.int .i64 kd, .int .u64 u, .int .i64 i, .int .i64 at_, .int .i64 mx, .slice A0 B.length c0, .slice A6 Ls.length c6] 66)
  have hgpos := hT.pos
  have hz0 : ∀ j, (w.alloc (.cells #[.int .i64 kd, .int .u64 u, .int .i64 i, .int .i64 at_, .int .i64 mx, .slice A0 B.length c0, .slice A6 Ls.length c6] 66)).frozen? ⟨w.heap.size, j, none⟩ = false := fun j => frozen_new _ _ _ _
  generalize (w.alloc (.cells #[.int .i64 kd, .int .u64 u, .int .i64 i, .int .i64 at_, .int .i64 mx, .slice A0 B.length c0, .slice A6 Ls.length c6] 66)) = w0 at *
  have HG := Hd.mk hlt
  have B0 := Hd.mk hb0
  have HT := Hd.mk hT0
  have HR := Hd.mk hR0
  have HP := Hd.mk hP0
  have HGP := Hd.mk hgpos
  have BZ : Hd (∀ j W, Below w0.heap.size w0 W → W.frozen? ⟨w.heap.size, j, none⟩ = false) := ⟨fun j W hb => (frozen_below hb hlt).trans (hz0 j)⟩
  have BX := Hd.mk BX0
  clear hz0 BX0 hlt hb0 hT0 hR0 hP0 hgpos h hp hT
  refine (few_any _ Ls w0 HP.out).mono ?_
  rintro e w' ⟨rfl, rfl⟩
  by_cases hf : Ls.flatten.length + Ls.length ≤ 4194304
  · rw [decide_eq_true hf]
    have f5 := BX.out 5 _ rfl
    obtain ⟨X, hX⟩ : ∃ X, B ++ room 75 = X := ⟨_, rfl⟩
    have HX := Hd.mk hX
    have CX := Hd.mk fun W V (h : Rd W V B) => roomy_e V B X W h (by omega) hX
    have CL := Hd.mk fun W V (h : RdL W V Ls) => laid_any V Ls W h hf
    have CK := Hd.mk fun W V (h : RdL W V Ls) => kept_any V Ls W h (by omega)
    clear hX
    go_wp2_with fail
    refine (CX.out _ _ HR.out).mono ?_
    rintro e w1 ⟨A1, c1, rfl, ho, hb⟩
    have OWide := Hd.mk ho
    have B1 := Hd.mk hb
    have g5 := (BX.out.below hb) 5 _ rfl
    clear ho hb f5
    go_wp2_with fail
    refine (CX.out _ _ (HR.out.below B1.out)).mono ?_
    rintro e w2 ⟨A2, c2, rfl, ho, hb⟩
    have OWas := Hd.mk (ho.mono B1.out.size)
    replace OWide := Hd.mk (OWide.out.below hb)
    have B2 := Hd.mk (bel_call0 B1.out hb)
    have f6 := (BX.out.below B2.out) 6 _ rfl
    clear ho hb g5 B1 CX
    go_wp2_with fail
    refine (CL.out _ _ (HP.out.below B2.out)).mono ?_
    rintro e w3 ⟨Aw, cw, Al, cl, vs, W, hW, rfl, hvl, ho, hv, he, hb⟩
    have OBase := Hd.mk (ho.mono B2.out.size)
    have OCut := Hd.mk (OwnV.mono hv B2.out.size)
    replace OWide := Hd.mk (OWide.out.below hb)
    replace OWas := Hd.mk (OWas.out.below hb)
    have B3 := Hd.mk (bel_call0 B2.out hb)
    have HE := Hd.mk he
    have HVl := Hd.mk hvl
    have HW := Hd.mk hW
    clear ho hb hv he hvl hW f6 B2 CL
    have hWl : W.length ≤ 400000000 := by
      rw [← HW.out, rowsW_len]; omega
    go_wp2_with fail
    refine (dPart_e _ W W 0 W.length w3 OBase.out.rd (by omega) (Nat.le_refl _) (by simp)).mono ?_
    rintro e w4 ⟨A4, c4, rfl, ho, hb⟩
    have OGround := Hd.mk (ho.mono B3.out.size)
    replace OBase := Hd.mk (OBase.out.below hb)
    replace OCut := Hd.mk (OCut.out.below hb)
    replace OWide := Hd.mk (OWide.out.below hb)
    replace OWas := Hd.mk (OWas.out.below hb)
    have B4 := Hd.mk (bel_call0 B3.out hb)
    have f6 := (BX.out.below B4.out) 6 _ rfl
    clear ho hb B3
    go_wp2_with fail
    refine (CK.out _ _ (HP.out.below B4.out)).mono ?_
    rintro e w5 ⟨A5, c5, ks, rfl, hkl, hv, he, hb⟩
    have OKept := Hd.mk (OwnV.mono hv B4.out.size)
    have HK : Hd (∀ i, i < Ls.length → Own w0.heap.size w5 (ks.getD i undef) (Ls.getD i [])) := ⟨fun i hi => (he i hi).mono B4.out.size⟩
    have HKl := Hd.mk hkl
    replace OGround := Hd.mk (OGround.out.below hb)
    replace OBase := Hd.mk (OBase.out.below hb)
    have OCut4 := OCut
    replace OCut := Hd.mk (OCut.out.below hb)
    replace OWide := Hd.mk (OWide.out.below hb)
    replace OWas := Hd.mk (OWas.out.below hb)
    have B5 := Hd.mk (bel_call0 B4.out hb)
    have KNe : Hd (∀ q, (Value.slice Al vs.length cl).ownBlock = some q → (Value.slice A5 ks.length c5).ownBlock ≠ some q) := ⟨fun q hq hq2 => by
      have h1 := (World.ownsRow.lt OCut4.out q hq).2
      have h2 := (World.ownsRow.lt hv q hq2).1
      omega⟩
    clear hb hv he hkl f6 B4 CK OCut4
    go_wp2_with fail
    have HKeeps : Hd (Keeps w0.heap.size w5 X W (.slice A1 X.length c1) (.slice A2 X.length c2) (.slice Aw W.length cw) (.slice A4 W.length c4) (.slice A5 ks.length c5) ks Ls) := ⟨OWide.out, OWas.out, OBase.out, OGround.out, OKept.out, HK.out⟩
    clear OWide OWas OBase OGround OKept HK
    have hvs : Hd (vs.length ≤ 4194304) := ⟨by have := HVl.out; omega⟩
    go_loopw [9, 10] (fun l i wr => ∃ (k : Nat) (ms : List Value), i = .int .i64 k ∧ k ≤ 20 ∧ Hd (ms.length = k) ∧ Hd (OwnV w0.heap.size wr l (vs ++ ms)) ∧ Hd (∀ j, j < k → Own w0.heap.size wr (ms.getD j undef) [207]) ∧
        Hd (∀ q, l.ownBlock = some q → (Value.slice A5 ks.length c5).ownBlock ≠ some q) ∧ Hd (Keeps w0.heap.size wr X W (.slice A1 X.length c1) (.slice A2 X.length c2) (.slice Aw W.length cw) (.slice A4 W.length c4) (.slice A5 ks.length c5) ks Ls) ∧ Hd (Below w0.heap.size w0 wr)) (fun _ i _ => 20 - (intOf i).toNat)
    case atStart => exact ⟨0, [], rfl, by omega, ⟨rfl⟩, ⟨by simpa using OCut.out⟩, ⟨fun j hj => absurd hj (Nat.not_lt_zero _)⟩, KNe, HKeeps, B5⟩
    case round =>
      clear HKeeps KNe B5 OCut
      obtain ⟨k, ms, rfl, hk, HMl, HO, HM, HNe, HKp, HQ⟩ := hrel
      by_cases hlt : k < 20
      · have HVll : Hd ((vs ++ ms).length ≤ 1099511627776) := ⟨by have := hvs.out; have := HMl.out; rw [List.length_append]; omega⟩
        obtain ⟨l1, hl1⟩ : ∃ l1, vs ++ ms = l1 := ⟨_, rfl⟩
        rw [hl1] at HO HVll
        have HL1 := Hd.mk hl1
        clear hl1
        obtain ⟨Ac, cc, rfl, _⟩ := HO.out.form
        have HKb := Hd.mk (World.ownsRow.lt HKp.out.2.2.2.2.1)
        go_wp2_with (at_builtin; refine wpList_appVl rfl (.tmp 51) (.tmp 53) rfl w0.heap.size _ (some ⟨wr.heap.size, 0, none⟩) 1 1 _ _ l1 rfl rfl ((HO.out.alloc _).alloc _) (cell_new22g (by simp)) HVll.out (hb_alloc (bel_alloc HQ.out _) (Nat.le_refl _) _) ?_; intro u2 w2 hown hgr hli; have V2 := Hd.mk hown; have K2 := Hd.mk (((HKp.out.below ((Below.refl _ _).alloc (Nat.le_refl _) _)).below ((Below.refl _ _).alloc (Nat.le_refl _) _)).app ((HO.out.alloc _).alloc _) HNe.out hgr); have B2 := Hd.mk (bel_appV (bel_alloc HQ.out _) (HO.out.alloc _) hgr); have M2 := Hd.mk (marks_step (x := [207]) (o2 := (.cells #[.slice (some ⟨wr.heap.size, 0, none⟩) 1 1] 22)) (n := 207) rfl HMl.out HM.out HO.out HQ.out.size hgr); have N2 := Hd.mk (row_ne HNe.out HKb.out (by simp; omega) hli); clear hown hgr hli)
        go_roundw
        case rel => exact ⟨k + 1, ms ++ [.slice (some ⟨wr.heap.size, 0, none⟩) 1 1], by go_num, by omega, ⟨by have := HMl.out; simp; omega⟩, ⟨by rw [← List.append_assoc, HL1.out]; exact V2.out⟩, M2, N2, K2, B2⟩
        case measure => simp [intOf]; omega
      · have HMl2 : Hd (ms.length = 20) := ⟨by have := HMl.out; omega⟩
        have HM20 : Hd (∀ j, j < 20 → Own w0.heap.size wr (ms.getD j undef) [207]) := ⟨fun j hj => HM.out j (by omega)⟩
        clear HM HMl
        obtain ⟨l2, hl2⟩ : ∃ l2, vs ++ ms = l2 := ⟨_, rfl⟩
        have hkl2 : ks.length ≤ l2.length := by have := HKl.out; have := HVl.out; rw [← hl2, List.length_append]; omega
        have HL2 := Hd.mk hl2
        rw [hl2] at HO
        clear hl2
        obtain ⟨Ac, cc, rfl, hcc, _⟩ := HO.out.form
        have hkc : ks.length ≤ cc := Nat.le_trans hkl2 hcc
        have hX2 := HKp.out.1.rd.slice
        have hxc := hX2.2.1
        have HXl : B.length + 75 = X.length := by rw [← HX.out, List.length_append, room_len]
        obtain ⟨i0', hi0', _, hz1', _⟩ := info_parts info5
        obtain ⟨i1', hi1', _, hz2', _⟩ := info_parts info22
        have f5 := (BX.out.below HQ.out) 5 _ rfl
        have f6 := (BX.out.below HQ.out) 6 _ rfl
        have cut1 := cut_to (P := Tryd.prog) 22 5 .i64 Tryd.underlying22 hi0' A1 X.length c1 (B.length : Int) (by omega) (by omega) hxc
        have cut2 := cut_to (P := Tryd.prog) 40 22 .i64 Tryd.underlying40 hi1' Ac l2.length cc (ks.length : Int) (by omega) (by omega) hcc
        rw [show ((B.length : Int)).toNat = B.length by omega] at cut1
        rw [show ((ks.length : Int)).toNat = ks.length by omega] at cut2
        clear hX2 hi0' hi1' hz1' hz2'
        have z5 := BZ.out 5 wr HQ.out
        have z6 := BZ.out 6 wr HQ.out
        go_upto_region 16 with fail
        have hT2 := ((HT.out.below HQ.out).set (a := ⟨w.heap.size, 5, none⟩) HGP.out (.slice A1 B.length c1)).set (a := ⟨w.heap.size, 6, none⟩) HGP.out (.slice Ac ks.length cc)
        have hKp2 := (HKp.out.set (a := ⟨w.heap.size, 5, none⟩) HG.out (.slice A1 B.length c1)).set (a := ⟨w.heap.size, 6, none⟩) HG.out (.slice Ac ks.length cc)
        have hO2 := OwnV.set (OwnV.set HO.out (a := ⟨w.heap.size, 5, none⟩) HG.out (.slice A1 B.length c1)) (a := ⟨w.heap.size, 6, none⟩) HG.out (.slice Ac ks.length cc)
        have hM2 := fun j (hj : j < 20) => Own.set (Own.set (HM20.out j hj) (a := ⟨w.heap.size, 5, none⟩) HG.out (.slice A1 B.length c1)) (a := ⟨w.heap.size, 6, none⟩) HG.out (.slice Ac ks.length cc)
        have hX2 := ((BX.out.below HQ.out).set 5 (.slice A1 B.length c1) (by simp)).set 6 (.slice Ac ks.length cc) (by simp)
        have hB2 := ((below_then B0.out (Nat.le_of_lt HG.out) HQ.out).setCell (p := ⟨w.heap.size, 5, none⟩) (Nat.le_refl _) (.slice A1 B.length c1)).setCell (p := ⟨w.heap.size, 6, none⟩) (Nat.le_refl _) (.slice Ac ks.length cc)
        have hs2 : w0.heap.size ≤ ((wr.setCell ⟨w.heap.size, 5, none⟩ (.slice A1 B.length c1)).setCell ⟨w.heap.size, 6, none⟩ (.slice Ac ks.length cc)).heap.size := by simpa using HQ.out.size
        clear f5 f6 z5 z6 cut1 cut2 HKp HO HM20 HNe hlt hk
        generalize ((wr.setCell ⟨w.heap.size, 5, none⟩ (.slice A1 B.length c1)).setCell ⟨w.heap.size, 6, none⟩ (.slice Ac ks.length cc)) = wq at *
        have TQ := Hd.mk hT2
        have KQ := Hd.mk hKp2
        have OQ := Hd.mk hO2
        have MQ := Hd.mk hM2
        have BQ := Hd.mk hB2
        have SQ := Hd.mk hs2
        have XQ : BoxAt wq w.heap.size #[.int .i64 kd, .int .u64 u, .int .i64 i, .int .i64 at_, .int .i64 mx, .slice A1 B.length c1, .slice Ac ks.length cc] := hX2
        have q0 := XQ 0 _ rfl
        have q1 := XQ 1 _ rfl
        have q2 := XQ 2 _ rfl
        have q3 := XQ 3 _ rfl
        have q4 := XQ 4 _ rfl
        have q5 := XQ 5 _ rfl
        have q6 := XQ 6 _ rfl
        have RB : Hd (Rd wq (.slice A1 B.length c1) B) := ⟨KQ.out.1.rd.pre HX.out⟩
        have RP : Hd (RdL wq (.slice Ac ks.length cc) Ls) := ⟨by rw [HKl.out]; exact list_marks OQ.out HL2.out HVl.out HMl2.out (by have := hvs.out; have := HVl.out; omega) (fun i hi => HE.out i hi wq KQ.out.2.2.1.rd) (fun j hj => (MQ.out j hj).rd)⟩
        have HXQ := Hd.mk XQ
        clear hT2 hKp2 hO2 hM2 hX2 hB2 hs2 XQ
        go_upto_block 2 with fail
        go_cut [11] (fun ok wx => ok = .bool true ∧ Hd (Below wq.heap.size wq wx))
        case first =>
          clear OQ MQ HE HL2 hcc hkc hxc HXl
          rcases kinds kd with h1 | ⟨⟨b1, b2, b3, b4⟩, h1⟩
          · rcases h1 with b1 | ⟨b1, b2⟩ | ⟨b1, b2, b3⟩ | ⟨b1, b2, b3, b4⟩
            all_goals
              go_wp2_with fail
              refine (numbers_any kd i at_ mx u _ _ B wq RB.out hu hi ha).mono ?_
              rintro e w7 ⟨rfl, hb⟩
              have B7 := Hd.mk hb
              clear hb q0 q1 q2 q3 q4 q5 q6
              go_wp2_with fail
              go_meet
              exact ⟨rfl, B7⟩
          · rcases h1 with h1 | ⟨⟨b5, b6, b7, b8⟩, h1⟩
            · rcases h1 with b5 | ⟨b5, b6⟩ | ⟨b5, b6, b7⟩ | ⟨b5, b6, b7, b8⟩
              all_goals
                go_wp2_with fail
                refine (stretches_any kd u i at_ mx _ _ B Ls wq RB.out RP.out TQ.out ha hm (by omega) (by omega)).mono ?_
                rintro e w7 ⟨rfl, hb⟩
                have B7 := Hd.mk hb
                clear hb q0 q1 q2 q3 q4 q5 q6
                go_wp2_with fail
                go_meet
                exact ⟨rfl, B7⟩
            · rcases h1 with b9 | ⟨b9, b10⟩ | ⟨b9, b10⟩
              · obtain ⟨Y, p, er, hE⟩ : ∃ x p er, rdF B at_ = (x, p, er) := ⟨_, _, _, rfl⟩
                have C1 := Hd.mk (readFrame_e _ B Y at_ p er wq RB.out TQ.out ha hE)
                have D1 := Hd.mk fun W (h : Rd W (.slice A1 B.length c1) B) => dReadFrame_e _ B Y at_ p er W h ha hE
                have n2 : ∀ z : Int, (z == z) = true := fun z => beq_self_eq_true z
                clear hE
                go_wp2_with fail
                refine C1.out.mono ?_
                rintro e w7 ⟨A7, c7, rfl, ho, hb⟩
                have R7 := Hd.mk ho.rd
                have B7 := Hd.mk hb
                have XQ7 := HXQ.out.below hb
                have f3 := XQ7 3 _ rfl
                have f5 := XQ7 5 _ rfl
                clear ho hb XQ7 q0 q1 q2 q3 q4 q5 q6 C1
                go_wp2_with fail
                refine (D1.out _ (RB.out.below B7.out)).mono ?_
                rintro e w8 ⟨A8, c8, rfl, ho, hb⟩
                have R8 := Hd.mk ho.rd
                have R78 := Hd.mk (R7.out.below hb)
                have B8 := Hd.mk (bel_call0 B7.out hb)
                clear ho hb f3 f5 D1 R7
                go_wp2_with fail
                refine (same_any _ _ Y Y true _ R78.out R8.out (by simp)).mono ?_
                rintro e w9 ⟨rfl, hb⟩
                have B9 := Hd.mk (bel_call0 B8.out hb)
                clear hb
                go_wp2_with (go_at_call 24; refine (num_any _ _).mono ?_; rintro e w' ⟨rfl, rfl⟩)
                go_meet
                exact ⟨rfl, B9⟩
              · obtain ⟨Ys, p, hE⟩ := RunsI.exists_ B at_
                have C1 := Hd.mk (readFrames_e _ B at_ p Ys wq RB.out TQ.out (by omega) hE)
                have D1 := Hd.mk fun W (h : Rd W (.slice A1 B.length c1) B) => dReadFrames_e _ B at_ p Ys W h (by omega) hE
                have n2 : ∀ z : Int, (z == z) = true := fun z => beq_self_eq_true z
                clear hE
                go_wp2_with fail
                refine C1.out.mono ?_
                rintro e w7 ⟨A7, c7, rfl, ho, hb⟩
                have R7 := Hd.mk ho
                have B7 := Hd.mk hb
                have XQ7 := HXQ.out.below hb
                have f3 := XQ7 3 _ rfl
                have f5 := XQ7 5 _ rfl
                clear ho hb XQ7 q0 q1 q2 q3 q4 q5 q6 C1
                go_wp2_with fail
                refine (D1.out _ (RB.out.below B7.out)).mono ?_
                rintro e w8 ⟨A8, c8, rfl, ho, hb⟩
                have R8 := Hd.mk ho
                have R78 := Hd.mk (R7.out.below hb)
                have B8 := Hd.mk (bel_call0 B7.out hb)
                clear ho hb f3 f5 D1 R7
                go_wp2_with fail
                refine (sameAll_any _ _ Ys Ys true _ R78.out R8.out (by simp)).mono ?_
                rintro e w9 ⟨rfl, hb⟩
                have B9 := Hd.mk (bel_call0 B8.out hb)
                clear hb
                go_wp2_with fail
                go_meet
                exact ⟨rfl, B9⟩
              · go_wp2_with fail
                go_meet
                exact ⟨rfl, ⟨Below.refl _ _⟩⟩
        case rest =>
          obtain ⟨rfl, hbc⟩ := hcut
          obtain ⟨g, rfl, -⟩ := OQ.out.at_ (ks.length + 0) (ms.getD 0 undef) (marks_at HL2.out (HVl.out.trans HKl.out.symm) HMl2.out (by omega))
          have KC := Hd.mk (KQ.out.below hbc.out)
          have OC := Hd.mk (OQ.out.below hbc.out)
          have MC : Hd (∀ j, j < 20 → Own w0.heap.size wc (ms.getD j undef) [207]) := ⟨fun j hj => (MQ.out j hj).below hbc.out⟩
          have BC := Hd.mk (bel_call0 BQ.out hbc.out)
          have RC := Hd.mk (RP.out.below hbc.out)
          have MA : Hd (∀ k, k < 20 → l2[ks.length + k]? = some (ms.getD k undef)) := ⟨fun k hk => marks_at HL2.out (HVl.out.trans HKl.out.symm) HMl2.out hk⟩
          have hll2 : ks.length + 20 = l2.length := by rw [← HL2.out, List.length_append, HVl.out, HKl.out, HMl2.out]
          have hksm : ks.length ≤ 4194304 := by have := hvs.out; have := HVl.out; have := HKl.out; omega
          clear hbc q0 q1 q2 q3 q4 q5 q6 KQ OQ MQ BQ RP RB HXQ TQ SQ hf
          go_wp2_with fail
          go_loopw [11, 22] (fun ok i wr => ∃ k : Nat, ok = .bool true ∧ i = .int .i64 k ∧ k ≤ 20 ∧ Hd (Below wc.heap.size wc wr)) (fun _ i _ => 20 - (intOf i).toNat)
          case atStart => exact ⟨0, rfl, rfl, by omega, ⟨Below.refl _ _⟩⟩
          case round =>
            obtain ⟨j, rfl, rfl, hj, HB⟩ := hrel
            by_cases hlt : j < 20
            · obtain ⟨Am, cm, hmf⟩ := (MC.out j hlt).rd.form
              obtain ⟨g', hg', hcell, -⟩ := (OC.out.below HB.out).at_ (ks.length + j) _ (MA.out j hlt)
              injection hg' with hg'
              injection hg' with hg'
              subst hg'
              have RM : Hd (Rd wr (ms.getD j undef) [207]) := ⟨((MC.out j hlt).below HB.out).rd⟩
              rw [hmf] at hcell RM
              clear hmf
              go_wp2_with fail
              refine (same_any _ _ [207] [207] true _ (RM.out.alloc _) (Rd.new1 _ _ 207 rfl) (by simp)).mono ?_
              rintro e w7 ⟨rfl, hb⟩
              have B7 := Hd.mk (bel_call HB.out _ hb)
              clear hb hcell
              go_wp2_with fail
              go_roundw
              case rel => exact ⟨j + 1, rfl, by go_num, by omega, B7⟩
              case measure => simp [intOf]; omega
            · have HKlen : Hd (OwnV w0.heap.size wr (.slice A5 ks.length c5) ks) := ⟨(KC.out.below HB.out).2.2.2.2.1⟩
              have RK : Hd (∀ W, Below wr.heap.size wr W → RdL W (.slice A5 ks.length c5) Ls) := ⟨fun W hW => by
                have := (HKlen.out.below hW).rdl HKl.out (by have := hksm; have := HKl.out; omega) (fun i hi => (((KC.out.below HB.out).below hW).2.2.2.2.2 i hi).rd)
                exact HKl.out ▸ this⟩
              have RL2 : Hd (∀ W, Below wr.heap.size wr W → RdL W (.slice (some ⟨g, 0, none⟩) ks.length cc) Ls) := ⟨fun W hW => (RC.out.below HB.out).below hW⟩
              obtain ⟨i1', hi1', _, hz2', _⟩ := info_parts info22
              have cut2 := cut_to (P := Tryd.prog) 40 22 .i64 Tryd.underlying40 hi1' (some ⟨g, 0, none⟩) l2.length cc (ks.length : Int) (by omega) (by omega) hcc
              rw [show ((ks.length : Int)).toNat = ks.length by omega] at cut2
              clear hi1' hz2'
              go_wp2_with fail
              refine (same_any _ _ X X true _ ((KC.out.below HB.out).1.rd) ((KC.out.below HB.out).2.1.rd) (by simp)).mono ?_
              rintro e w7 ⟨rfl, hb⟩
              have B7 := Hd.mk hb
              clear hb
              go_wp2_with fail
              refine (same_any _ _ W W true _ (((KC.out.below HB.out).below B7.out).2.2.1.rd) (((KC.out.below HB.out).below B7.out).2.2.2.1.rd) (by simp)).mono ?_
              rintro e w8 ⟨rfl, hb⟩
              have B8 := Hd.mk (bel_call0 B7.out hb)
              clear hb
              go_wp2_with fail
              refine (sameAll_any _ _ Ls Ls true _ (RK.out _ B8.out) (RL2.out _ B8.out) (by simp)).mono ?_
              rintro e w9 ⟨rfl, hb⟩
              have B9 := Hd.mk (bel_call0 BC.out (bel_call0 HB.out (bel_call0 B8.out hb)))
              clear hb
              go_wp2
              go_ret
              exact ⟨rfl, B9.out⟩
  · rw [decide_eq_false hf]
    go_wp2
    go_ret
    exact ⟨rfl, B0.out⟩

end Go.Proofs.YtbobigaifkffoaaDoor
