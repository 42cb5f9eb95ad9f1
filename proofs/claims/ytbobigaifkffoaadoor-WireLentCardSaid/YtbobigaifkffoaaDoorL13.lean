import Derived.Test.YtbobigaifkffoaaDoorL11
import Derived.Test.YtbobigaifkffoaaDoorP5
namespace Go.Proofs.YtbobigaifkffoaaDoor
open Go.RowKit
set_option linter.unusedVariables false
set_option linter.unusedSimpArgs false

theorem RdL.take {w : World} {A : Option Addr} {n cap : Nat} {Ls : List (List UInt8)} (h : RdL w (.slice A n cap) Ls) (m : Nat) (hm : m ≤ Ls.length) : RdL w (.slice A m cap) (Ls.take m) := by
  obtain ⟨A', cap', e, h1, hn, h2, h3⟩ := h
  injection e with e1 e2 e3
  subst e1; subst e2; subst e3
  have hl : (Ls.take m).length = m := by rw [List.length_take]; omega
  refine ⟨A, cap, by rw [hl], by omega, hn, by omega, fun h0 => ?_⟩
  obtain ⟨ad, e, hc⟩ := h3 (by omega)
  refine ⟨ad, e, fun j hj => ?_⟩
  obtain ⟨sv, h4, h5⟩ := hc j (by omega)
  refine ⟨sv, h4, ?_⟩
  rw [List.getD_eq_getElem?_getD, List.getElem?_take, if_pos (by omega), ← List.getD_eq_getElem?_getD]
  exact h5

/-- What light hands out. -/
def OutLi (Ls : List (List UInt8)) (w : World) (e : Ending) (w' : World) : Prop :=
  ∃ A m c, e = .returned (.slice A m c) ∧ m ≤ Ls.length ∧ m ≤ 5000 ∧ (Ls.take m).flatten.length ≤ 4194304 ∧ RdL w (.slice A m c) (Ls.take m) ∧ w = w'

set_option maxRecDepth 100000 in
set_option maxHeartbeats 1000000 in
/-- 'light': the first ones of a list, at most 5000, of at most 4 MB together. -/
theorem light_any (v : Value) (Ls : List (List UInt8)) (w : World) (h : RdL w v Ls) :
    Calls Tryd.prog 28 #[v] w (OutLi Ls w) := by
  obtain ⟨A, cap, rfl, hl⟩ := h.form
  have HR := Hd.mk h
  obtain ⟨_, _, e, hcap, _⟩ := id h
  injection e with e1 e2 e3
  subst e1; subst e3
  clear h e2
  obtain ⟨i0, hi0, _, _, _⟩ := info_parts info22
  go_enter Tryd.func28, Tryd.ntmps28
  go_wp2
  go_loop [3, 4] (fun n i => ∃ (s k : Nat), n = .int .i64 s ∧ i = .int .i64 k ∧ k ≤ Ls.length ∧ k ≤ 5000 ∧ s ≤ 4194304 ∧ Hd (s = (Ls.take k).flatten.length)) (fun _ i => Ls.length - (intOf i).toNat)
  case atStart => exact ⟨0, 0, rfl, rfl, by omega, by omega, by omega, ⟨by simp⟩⟩
  case round =>
    obtain ⟨s, k, rfl, rfl, hk, hk5, hs, HS⟩ := hrel
    by_cases hlt : k < Ls.length
    · obtain ⟨ad, A1, c1, L1, rfl, hcell, hl1, HL1, HR1⟩ := HR.out.at_ k hlt
      have HF := Hd.mk (flat_snoc Ls k L1 HL1.out)
      by_cases hstop : 5000 ≤ k ∨ 4194304 < s + L1.length
      · have hcut := cut_to (P := Tryd.prog) 40 22 .i64 Tryd.underlying40 hi0 (some ad) Ls.length cap k (by omega) (by omega) hcap
        clear hi0
        rw [show ((k : Int)).toNat = k by omega] at hcut
        by_cases h5 : 5000 ≤ k
        · have d1 : decide (5000 ≤ (k : Int)) = true := dec_t (by omega)
          go_wp2
          go_ret
          exact ⟨_, _, _, rfl, hk, hk5, by rw [← HS.out]; exact hs, HR.out.take k hk, rfl⟩
        · have d1 : decide (5000 ≤ (k : Int)) = false := dec_f (by omega)
          have d2 : decide (4194304 < (s : Int) + L1.length) = true := dec_t (by omega)
          go_wp2
          go_ret
          exact ⟨_, _, _, rfl, hk, hk5, by rw [← HS.out]; exact hs, HR.out.take k hk, rfl⟩
      · have d1 : decide (5000 ≤ (k : Int)) = false := dec_f (by omega)
        have d2 : decide (4194304 < (s : Int) + L1.length) = false := dec_f (by omega)
        clear hi0
        go_wp2
        go_round
        case rel => exact ⟨s + L1.length, k + 1, by go_num, by go_num, by omega, by omega, by omega, ⟨by rw [HF.out, List.length_append, ← HS.out]⟩⟩
        case measure => simp [intOf]; omega
    · have hall : k = Ls.length := by omega
      clear hi0
      go_wp2
      go_ret
      refine ⟨_, Ls.length, cap, rfl, by omega, by omega, ?_, ?_, rfl⟩
      · rw [← hall, ← HS.out]; exact hs
      · rw [List.take_length]; exact HR.out

/-- What ReadFrames hands out. -/
def OutR (Bs : List (List UInt8)) (q : Nat) (w : World) (e : Ending) (w' : World) : Prop :=
  ∃ A c vs, e = .returned (.tuple #[.slice A vs.length c, .int .i64 (q : Int)]) ∧ vs.length = Bs.length ∧ OwnV w.heap.size w' (.slice A vs.length c) vs ∧
    (∀ i, i < Bs.length → Own w.heap.size w' (vs.getD i undef) (Bs.getD i [])) ∧
    (∀ i j, i < j → j < Bs.length → ∃ m, (∀ g, (vs.getD i undef).ownBlock = some g → g < m) ∧ (∀ g, (vs.getD j undef).ownBlock = some g → m ≤ g)) ∧ Below w.heap.size w w'

set_option maxRecDepth 100000 in
set_option maxHeartbeats 4000000 in
/-- 'wire.ReadFrames', from a place within. -/
theorem readFrames_any (v : Value) (L : List UInt8) (pos q : Nat) (Bs : List (List UInt8)) (w : World) (h : Rd w v L) (hT : TabOk w) (hp : pos ≤ L.length) (hsm : L.length - pos ≤ 1099511627776) (hr : Runs L pos Bs q) :
    Calls Tryd.prog 29 #[v, .int .i64 pos] w (OutR Bs q w) := by
  obtain ⟨A, cap, rfl⟩ := h.form
  have hl := h.slice.2.2.2.1
  have HR := Hd.mk h
  have HT := Hd.mk hT
  have HN := Hd.mk hr
  clear h hT hr
  have d1 : decide ((pos : Int) < 0) = false := dec_f (by omega)
  have d2 : decide ((L.length : Int) < (pos : Int)) = false := dec_f (by omega)
  have d3 : decide (L.length < pos) = false := dec_f (by omega)
  go_enter Tryd.func29, Tryd.ntmps29
  go_wp2
  clear d1 d2 d3
  go_loopw [1, 6] (fun at_ bo wr => ∃ (a : Nat) (done rest : List (List UInt8)) (vs : List Value), at_ = .int .i64 a ∧ pos ≤ a ∧ a ≤ L.length ∧ Hd (Runs L a rest q) ∧ Hd (Bs = done ++ rest) ∧ Hd (pos + 7 * done.length ≤ a) ∧ Hd (vs.length = done.length) ∧ Hd (OwnV w.heap.size wr bo vs) ∧
      Hd (∀ i, i < done.length → Own w.heap.size wr (vs.getD i undef) (done.getD i [])) ∧
      Hd (∀ i j, i < j → j < done.length → ∃ m, (∀ g, (vs.getD i undef).ownBlock = some g → g < m) ∧ (∀ g, (vs.getD j undef).ownBlock = some g → m ≤ g)) ∧ Hd (Below w.heap.size w wr))
      (fun at_ _ _ => L.length - (intOf at_).toNat)
  case atStart => exact ⟨pos, [], Bs, [], rfl, by omega, hp, HN, ⟨rfl⟩, ⟨by simp⟩, ⟨rfl⟩, ⟨OwnV.nil _ _⟩, ⟨fun i hi => by simp at hi⟩, ⟨fun i j _ hj => by simp at hj⟩, ⟨Below.refl _ _⟩⟩
  case round =>
    obtain ⟨a, done, rest, vs, rfl, hpa, hal, HRu, HB, HC, HV, HO, HE, HD, HW⟩ := hrel
    obtain ⟨⟨b, p, er⟩, hX⟩ : ∃ x, rdF L a = x := ⟨_, rfl⟩
    have HCall := Hd.mk (readFrame_e _ L b a p er _ (HR.out.below HW.out) (HT.out.below HW.out) (by omega) hX)
    by_cases h0 : er = 0
    · subst h0
      have hsp := rdF_spec hX
      obtain ⟨bs, ht, hrest⟩ : ∃ bs, Runs L p bs q ∧ rest = b :: bs := by
        have := HRu.out
        cases this with
        | stop _ h => rw [hX] at h; simp at h
        | more _ p' b' bs _ h t =>
          rw [hX] at h
          simp only [Prod.mk.injEq, and_true] at h
          obtain ⟨rfl, rfl⟩ := h
          exact ⟨bs, t, rfl⟩
      have HT2 := Hd.mk ht
      have HS := Hd.mk hrest
      have hpL := hsp.2.1
      have hap := hsp.1
      have HSp := Hd.mk hsp
      clear ht hrest hX hsp
      go_wp2_with fail
      refine HCall.out.mono ?_
      rintro e w1 ⟨Ab, cb, rfl, hb, hbl⟩
      have O1 := Hd.mk (HO.out.below hbl)
      have OB := Hd.mk hb
      have E1 : Hd (∀ i, i < done.length → Own w.heap.size w1 (vs.getD i undef) (done.getD i [])) := ⟨fun i hi => (HE.out i hi).below hbl⟩
      have LT : Hd (∀ i, i < done.length → ∀ g, (vs.getD i undef).ownBlock = some g → g < wr.heap.size) := ⟨fun i hi g hg => ((HE.out i hi).2.lt g hg).2⟩
      have GE : Hd (∀ g, (Value.slice Ab b.length cb).ownBlock = some g → wr.heap.size ≤ g) := ⟨fun g hg => (hb.2.lt g hg).1⟩
      have SZ : Hd (w.heap.size ≤ wr.heap.size) := ⟨HW.out.size⟩
      have B1 := Hd.mk (bel_call0 HW.out hbl)
      have HVl : Hd (vs.length ≤ 1099511627776) := ⟨by have := HV.out; have := HC.out; omega⟩
      clear hb hbl HCall HO HE HW
      go_wp2_with (at_builtin; refine wpList_appV rfl (.tmp 29) (.tmp 31) rfl w.heap.size _ Ab b.length cb _ _ vs rfl rfl (O1.out.alloc _) (cell_new22 _ _) HVl.out (hb_alloc B1.out (Nat.le_refl _) _) ?_; intro u2 w2 hown hgr; have O2 := Hd.mk hown; have B2 : Hd (Below w.heap.size w w2) := ⟨bel_appV B1.out O1.out hgr⟩; have E2 : Hd (∀ i, i < done.length → Own w.heap.size w2 (vs.getD i undef) (done.getD i [])) := ⟨fun i hi => own_other ((E1.out i hi).alloc _) (O1.out.alloc _) hgr⟩; have OB2 : Hd (Own wr.heap.size w2 (.slice Ab b.length cb) b) := ⟨own_other (OB.out.alloc _) (O1.out.alloc _) hgr⟩; clear hown hgr)
      go_roundw
      case rel =>
        refine ⟨p, done ++ [b], bs, vs ++ [.slice Ab b.length cb], rfl, by omega, by omega, HT2, ⟨by rw [HB.out, HS.out]; simp⟩, ⟨by have := HC.out; simp; omega⟩, ⟨by simpa using HV.out⟩, O2, ⟨fun i hi => ?_⟩, ⟨fun i j hij hj => ?_⟩, B2⟩
        · have hv := HV.out
          by_cases hid : i < done.length
          · rw [List.getD_eq_getElem?_getD, List.getElem?_append_left (by omega), List.getD_eq_getElem?_getD, List.getElem?_append_left hid, ← List.getD_eq_getElem?_getD, ← List.getD_eq_getElem?_getD]
            exact E2.out i hid
          · have : i = done.length := by simp at hi; omega
            subst this
            rw [List.getD_eq_getElem?_getD, List.getElem?_append_right (by omega), List.getD_eq_getElem?_getD, List.getElem?_append_right (by omega), hv, Nat.sub_self]
            exact OB2.out.mono SZ.out
        · have hv := HV.out
          by_cases hjd : j < done.length
          · rw [List.getD_eq_getElem?_getD, List.getElem?_append_left (by omega), List.getD_eq_getElem?_getD, List.getElem?_append_left (by omega), ← List.getD_eq_getElem?_getD, ← List.getD_eq_getElem?_getD]
            exact HD.out i j hij hjd
          · have : j = done.length := by simp at hj; omega
            subst this
            rw [List.getD_eq_getElem?_getD, List.getElem?_append_left (by omega), List.getD_eq_getElem?_getD, List.getElem?_append_right (by omega), hv, Nat.sub_self, ← List.getD_eq_getElem?_getD]
            exact ⟨wr.heap.size, LT.out i hij, GE.out⟩
      case measure => simp [intOf]; omega
    · have hrest : rest = [] ∧ a = q := by
        have := HRu.out
        cases this with
        | stop _ h => exact ⟨rfl, rfl⟩
        | more _ p' b' bs _ h t =>
          rw [hX] at h
          simp only [Prod.mk.injEq] at h
          omega
      obtain ⟨rfl, rfl⟩ := hrest
      have hBs : Bs = done := by rw [HB.out]; simp
      subst hBs
      have n1 : ((er : Int) != 0) = true := bne_t (by omega)
      obtain ⟨Ao, co, rfl, _⟩ := HO.out.form
      clear hX
      go_wp2_with fail
      refine HCall.out.mono ?_
      rintro e w1 ⟨Ab, cb, rfl, hb, hbl⟩
      have O1 := Hd.mk (HO.out.below hbl)
      have E1 : Hd (∀ i, i < Bs.length → Own w.heap.size w1 (vs.getD i undef) (Bs.getD i [])) := ⟨fun i hi => (HE.out i hi).below hbl⟩
      have B1 := Hd.mk (bel_call0 HW.out hbl)
      clear hb hbl HCall
      go_wp2
      go_ret2
      exact ⟨Ao, co, vs, rfl, HV.out, O1.out, E1.out, HD.out, B1.out⟩

end Go.Proofs.YtbobigaifkffoaaDoor
