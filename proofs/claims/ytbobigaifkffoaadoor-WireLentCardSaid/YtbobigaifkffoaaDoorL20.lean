/-
  THE WALKS of the document's own answer (annalsref1): ReadFrame, ReadFrames.
-/
import Derived.Test.YtbobigaifkffoaaDoorL19
namespace Go.Proofs.YtbobigaifkffoaaDoor
open Go.RowKit
set_option linter.unusedVariables false
set_option linter.unusedSimpArgs false

theorem rdF_same {L : List UInt8} {a n p : Nat} {B : List UInt8} (hE : rdU L a = (n, p, 0)) (h0 : n ≠ 0) (h1 : n ≤ 1048576) (h2 : p + n + 5 ≤ L.length) (h3 : L[p + n + 4]? = some 165) (hB : (L.take (p + n)).drop p = B) :
    B.length = n ∧ a + (frm B).length = p + n + 5 ∧ rdF L a = if (L.drop a).take (frm B).length = frm B then (B, p + n + 5, 0) else ([], 0, 16) := by
  obtain ⟨hw, hpl, hap, h64⟩ := rdU_way hE
  have hBl : B.length = n := by rw [← hB, List.length_drop, List.length_take]; omega
  have hul := congrArg List.length hw
  rw [List.length_drop, List.length_take] at hul
  have hfl : a + (frm B).length = p + n + 5 := by rw [frm_len, hBl]; omega
  refine ⟨hBl, hfl, ?_⟩
  have hbnd : bnd L a = (p, p + n, 0) := by
    rw [bnd_ok hE, if_neg h0, if_neg (by omega), if_neg (by omega), if_pos h3]
  by_cases hs : (L.drop a).take (frm B).length = frm B
  · rw [if_pos hs]
    have hb := rdF_back (L.take a) B (L.drop (a + (frm B).length)) (by omega) (by omega)
    have hLL : L.take a ++ frm B ++ L.drop (a + (frm B).length) = L := by
      rw [← hs, List.append_assoc]
      have : (List.drop a L).take (frm B).length ++ L.drop (a + (frm B).length) = L.drop a := by
        rw [← List.drop_drop]
        exact List.take_append_drop _ _
      rw [show (List.take (frm B).length (List.drop a L)).length = (frm B).length by rw [hs], this, List.take_append_drop]
    rw [hLL, List.length_take, Nat.min_eq_left (by omega), hfl] at hb
    exact hb
  · rw [if_neg hs, rdF_ok hbnd]
    split
    · rename_i hc
      have hok : rdF L a = (B, p + n + 5, 0) := by rw [rdF_ok hbnd, if_pos hc, hB]
      have := (rdF_way hok).1
      rw [← hfl, take_drop_add] at this
      exact absurd this hs
    · rfl

set_option maxRecDepth 100000 in
set_option maxHeartbeats 2000000 in
/-- 'annalsref1.ReadFrame'. -/
theorem dReadFrame_e (v : Value) (L B : List UInt8) (pos : Int) (p er : Nat) (w : World) (h : Rd w v L) (hp : -9223372036854775808 ≤ pos) (hX : rdF L pos = (B, p, er)) :
    Calls Tryd.prog 52 #[v, .int .i64 pos] w fun e w' => ∃ A c, e = .returned (.tuple #[.slice A B.length c, .int .i64 (p : Int), .int .i64 (er : Int)]) ∧ Own w.heap.size w' (.slice A B.length c) B ∧ Below w.heap.size w w' := by
  obtain ⟨n, t, er', hE⟩ : ∃ n p er, rdU L pos = (n, p, er) := ⟨_, _, _, rfl⟩
  have HC := Hd.mk (dReadUint_e v L pos n t er' w h hp hE)
  obtain ⟨A, cap, rfl⟩ := h.form
  obtain ⟨_, _, _, hl, hr⟩ := h.slice
  have HL := Hd.mk h
  have HR := Hd.mk hr
  clear hr hp
  by_cases h0 : er' = 0
  · subst h0
    obtain ⟨a, k, rfl, ha, ht, hk, hk10, hpl, hn64, hru⟩ := rdU_spec hE
    have hB0 := bnd_ok hE
    have hn := hn64.out
    clear hn64 hru h ht hk hk10
    by_cases h1 : n = 0
    · rw [if_pos h1] at hB0
      rw [rdF_err hB0] at hX
      simp only [Prod.mk.injEq] at hX
      obtain ⟨rfl, rfl, rfl⟩ := hX
      have b1 : ((n : Int) == 0) = true := beq_t (by omega)
      clear hE hB0 h1 hn
      go_enter Tryd.func52, Tryd.ntmps52
      go_wp2_with fail
      refine HC.out.mono ?_; rintro e w' ⟨rfl, rfl⟩
      go_wp2
      go_ret3
      exact ⟨none, 0, rfl, Own.nil _ _, Below.refl _ _⟩
    · rw [if_neg h1] at hB0
      have b1 : ((n : Int) == 0) = false := beq_f (by omega)
      by_cases h2 : 1048576 < n
      · rw [if_pos h2] at hB0
        rw [rdF_err hB0] at hX
        simp only [Prod.mk.injEq] at hX
        obtain ⟨rfl, rfl, rfl⟩ := hX
        clear hE hB0 h1 hn
        go_enter Tryd.func52, Tryd.ntmps52
        go_wp2_with fail
        refine HC.out.mono ?_; rintro e w' ⟨rfl, rfl⟩
        go_wp2
        go_ret3
        exact ⟨none, 0, rfl, Own.nil _ _, Below.refl _ _⟩
      · rw [if_neg h2] at hB0
        by_cases h3 : L.length < t + n + 5
        · rw [if_pos h3] at hB0
          rw [rdF_err hB0] at hX
          simp only [Prod.mk.injEq] at hX
          obtain ⟨rfl, rfl, rfl⟩ := hX
          clear hE hB0 h1 hn
          go_enter Tryd.func52, Tryd.ntmps52
          go_wp2_with fail
          refine HC.out.mono ?_; rintro e w' ⟨rfl, rfl⟩
          go_wp2
          go_ret3
          exact ⟨none, 0, rfl, Own.nil _ _, Below.refl _ _⟩
        · rw [if_neg h3] at hB0
          obtain ⟨ad, c, rfl, hcell, HLc⟩ := HR.out.at_ (t + n + 4) (by omega)
          have hcell2 : w.cell? ⟨ad.block, ad.off + (t + n + 3 + 1), none⟩ = some (Value.int IntKind.u8 (c.toNat : Int)) := cell_succ hcell
          have hc256 := c.toNat_lt
          by_cases h4 : c = 165
          · rw [if_pos (by rw [HLc.out, h4])] at hB0
            have h4' : c.toNat ≤ 165 ∧ 165 ≤ c.toNat := by subst h4; decide
            obtain ⟨Y, hY⟩ : ∃ Y, (L.take (t + n)).drop t = Y := ⟨_, rfl⟩
            obtain ⟨y1, y2, y3⟩ := rdF_same hE h1 (by omega) (by omega) (by rw [HLc.out, h4]) hY
            have P1 := Hd.mk (dPart_e _ L Y t (t + n) w HL.out (by omega) (by omega) hY)
            obtain ⟨k1, k2⟩ := frm_good (M := Y) (by omega) (by omega)
            obtain ⟨F, hF⟩ : ∃ F, frm Y = F := ⟨_, rfl⟩
            rw [hF] at k2 y2 y3
            have F1 := Hd.mk fun W V (h : Rd W V Y) => dFrame_e V Y F 0 W h k1 k2
            obtain ⟨r, hr⟩ : ∃ r, decide ((L.drop a).take F.length = F) = r := ⟨_, rfl⟩
            have S1 := Hd.mk fun W V1 V2 (h1 : Rd W V1 L) (h2 : Rd W V2 F) => dSame_e V1 V2 L F a r W h1 h2 (by omega) hr
            rw [hX] at y3
            have HY := Hd.mk y3
            have Hr := Hd.mk hr
            clear h4 hE hB0 h1 hn hX hY y1 y2 y3 k1 k2 hF hr
            go_enter Tryd.func52, Tryd.ntmps52
            go_wp2_with fail
            refine HC.out.mono ?_; rintro e w' ⟨rfl, rfl⟩
            go_wp2_with fail
            refine P1.out.mono ?_
            rintro e w1 ⟨A1, c1, rfl, ho, hb⟩
            have O1 := Hd.mk ho
            have B1 := Hd.mk hb
            clear ho hb P1 HC
            go_wp2_with fail
            refine (F1.out _ _ O1.out.rd).mono ?_
            rintro e w2 ⟨A2, c2, rfl, ho, hb⟩
            have O2 := Hd.mk ho
            have O12 := Hd.mk (O1.out.below hb)
            have B2 := Hd.mk (bel_call0 B1.out hb)
            clear ho hb F1 O1
            go_wp2_with fail
            refine (S1.out _ _ _ (HL.out.below B2.out) O2.out.rd).mono ?_
            rintro e w3 ⟨rfl, hb⟩
            have O13 := Hd.mk (O12.out.below hb)
            have B3 := Hd.mk (bel_call0 B2.out hb)
            clear hb S1 O2 O12
            cases hrr : r
            · have hY := HY.out
              rw [if_neg (of_decide_eq_false (Hr.out.trans hrr))] at hY
              simp only [Prod.mk.injEq] at hY
              obtain ⟨rfl, rfl, rfl⟩ := hY
              subst hrr
              go_wp2
              go_ret3
              exact ⟨none, 0, rfl, Own.nil _ _, B3.out⟩
            · have hY := HY.out
              rw [if_pos (of_decide_eq_true (Hr.out.trans hrr))] at hY
              simp only [Prod.mk.injEq] at hY
              obtain ⟨rfl, rfl, rfl⟩ := hY
              subst hrr
              go_wp2
              go_ret3
              exact ⟨A1, c1, rfl, O13.out, B3.out⟩
          · rw [if_neg (by rw [HLc.out]; simpa using h4)] at hB0
            rw [rdF_err hB0] at hX
            simp only [Prod.mk.injEq] at hX
            obtain ⟨rfl, rfl, rfl⟩ := hX
            have h4' : c.toNat < 165 ∨ 165 < c.toNat := by
              rcases Nat.lt_trichotomy c.toNat 165 with h | h | h
              · exact .inl h
              · exact absurd (UInt8.toNat_inj.1 h) h4
              · exact .inr h
            clear h4 hE hB0 h1 hn
            rcases h4' with h4' | h4'
            all_goals
              go_enter Tryd.func52, Tryd.ntmps52
              go_wp2_with fail
              refine HC.out.mono ?_; rintro e w' ⟨rfl, rfl⟩
              go_wp2
              go_ret3
              exact ⟨none, 0, rfl, Own.nil _ _, Below.refl _ _⟩
  · obtain ⟨m, rfl⟩ : ∃ m, er' = m + 1 := ⟨er' - 1, by omega⟩
    rw [rdF_err (bnd_err hE)] at hX
    simp only [Prod.mk.injEq] at hX
    obtain ⟨rfl, rfl, rfl⟩ := hX
    have b1 : (((m + 1 : Nat) : Int) == 0) = false := beq_f (by omega)
    obtain ⟨e1, he1⟩ : ∃ e1, m + 1 = e1 := ⟨_, rfl⟩
    rw [he1] at HC b1
    rw [he1]
    clear hE h0 he1 h
    go_enter Tryd.func52, Tryd.ntmps52
    go_wp2_with fail
    refine HC.out.mono ?_; rintro e w' ⟨rfl, rfl⟩
    go_wp2
    go_ret3
    exact ⟨none, 0, rfl, Own.nil _ _, Below.refl _ _⟩

set_option maxRecDepth 100000 in
set_option maxHeartbeats 4000000 in
/-- 'annalsref1.ReadFrames', from a place within. -/
theorem dReadFrames_any (v : Value) (L : List UInt8) (pos q : Nat) (Bs : List (List UInt8)) (w : World) (h : Rd w v L) (hp : pos ≤ L.length) (hsm : L.length - pos ≤ 1099511627776) (hr : Runs L pos Bs q) :
    Calls Tryd.prog 31 #[v, .int .i64 pos] w (OutR Bs q w) := by
  obtain ⟨A, cap, rfl⟩ := h.form
  have hl := h.slice.2.2.2.1
  have HR := Hd.mk h
  have HN := Hd.mk hr
  clear h hr
  have d1 : decide ((pos : Int) < 0) = false := dec_f (by omega)
  have d2 : decide ((L.length : Int) < (pos : Int)) = false := dec_f (by omega)
  have d3 : decide (L.length < pos) = false := dec_f (by omega)
  go_enter Tryd.func31, Tryd.ntmps31
  go_wp2
  clear d1 d2 d3
  go_loopw [1, 6] (fun at_ bo wr => ∃ (a : Nat) (done rest : List (List UInt8)) (vs : List Value), at_ = .int .i64 a ∧ pos ≤ a ∧ a ≤ L.length ∧ Hd (Runs L a rest q) ∧ Hd (Bs = done ++ rest) ∧ Hd (pos + 7 * done.length ≤ a) ∧ Hd (vs.length = done.length) ∧ Hd (OwnV w.heap.size wr bo vs) ∧
      Hd (∀ i, i < done.length → Own w.heap.size wr (vs.getD i undef) (done.getD i [])) ∧
      Hd (∀ i j, i < j → j < done.length → ∃ m, (∀ g, (vs.getD i undef).ownBlock = some g → g < m) ∧ (∀ g, (vs.getD j undef).ownBlock = some g → m ≤ g)) ∧ Hd (Below w.heap.size w wr))
      (fun at_ _ _ => L.length - (intOf at_).toNat)
  case atStart => exact ⟨pos, [], Bs, [], rfl, by omega, hp, HN, ⟨rfl⟩, ⟨by simp⟩, ⟨rfl⟩, ⟨OwnV.nil _ _⟩, ⟨fun i hi => by simp at hi⟩, ⟨fun i j _ hj => by simp at hj⟩, ⟨Below.refl _ _⟩⟩
  case round =>
    obtain ⟨a, done, rest, vs, rfl, hpa, hal, HRu, HB, HC, HV, HO, HE, HD, HW⟩ := hrel
    obtain ⟨⟨b, p, er⟩, hX⟩ : ∃ x, rdF L a = x := ⟨_, rfl⟩
    have HCall := Hd.mk (dReadFrame_e _ L b a p er _ (HR.out.below HW.out) (by omega) hX)
    by_cases h0 : er = 0
    · subst h0
      have hsp := rdF_spec hX
      obtain ⟨bs, ht, hrest⟩ : ∃ bs, Runs L p bs q ∧ rest = b :: bs := by
        have := HRu.out
        cases this with
        | stop _ h => rw [hX] at h; simp at h
        | more _ p' b' bs _ h t =>
          rw [hX] at h
          simp only [Prod.mk.injEq, and_true] at h
          obtain ⟨rfl, rfl⟩ := h
          exact ⟨bs, t, rfl⟩
      have HT2 := Hd.mk ht
      have HS := Hd.mk hrest
      have hpL := hsp.2.1
      have hap := hsp.1
      have HSp := Hd.mk hsp
      clear ht hrest hX hsp
      go_wp2_with fail
      refine HCall.out.mono ?_
      rintro e w1 ⟨Ab, cb, rfl, hb, hbl⟩
      have O1 := Hd.mk (HO.out.below hbl)
      have OB := Hd.mk hb
      have E1 : Hd (∀ i, i < done.length → Own w.heap.size w1 (vs.getD i undef) (done.getD i [])) := ⟨fun i hi => (HE.out i hi).below hbl⟩
      have LT : Hd (∀ i, i < done.length → ∀ g, (vs.getD i undef).ownBlock = some g → g < wr.heap.size) := ⟨fun i hi g hg => ((HE.out i hi).2.lt g hg).2⟩
      have GE : Hd (∀ g, (Value.slice Ab b.length cb).ownBlock = some g → wr.heap.size ≤ g) := ⟨fun g hg => (hb.2.lt g hg).1⟩
      have SZ : Hd (w.heap.size ≤ wr.heap.size) := ⟨HW.out.size⟩
      have B1 := Hd.mk (bel_call0 HW.out hbl)
      have HVl : Hd (vs.length ≤ 1099511627776) := ⟨by have := HV.out; have := HC.out; omega⟩
      clear hb hbl HCall HO HE HW
      go_wp2_with (at_builtin; refine wpList_appV rfl (.tmp 29) (.tmp 31) rfl w.heap.size _ Ab b.length cb _ _ vs rfl rfl (O1.out.alloc _) (cell_new22 _ _) HVl.out (hb_alloc B1.out (Nat.le_refl _) _) ?_; intro u2 w2 hown hgr; have O2 := Hd.mk hown; have B2 : Hd (Below w.heap.size w w2) := ⟨bel_appV B1.out O1.out hgr⟩; have E2 : Hd (∀ i, i < done.length → Own w.heap.size w2 (vs.getD i undef) (done.getD i [])) := ⟨fun i hi => own_other ((E1.out i hi).alloc _) (O1.out.alloc _) hgr⟩; have OB2 : Hd (Own wr.heap.size w2 (.slice Ab b.length cb) b) := ⟨own_other (OB.out.alloc _) (O1.out.alloc _) hgr⟩; clear hown hgr)
      go_roundw
      case rel =>
        refine ⟨p, done ++ [b], bs, vs ++ [.slice Ab b.length cb], rfl, by omega, by omega, HT2, ⟨by rw [HB.out, HS.out]; simp⟩, ⟨by have := HC.out; simp; omega⟩, ⟨by simpa using HV.out⟩, O2, ⟨fun i hi => ?_⟩, ⟨fun i j hij hj => ?_⟩, B2⟩
        · have hv := HV.out
          by_cases hid : i < done.length
          · rw [List.getD_eq_getElem?_getD, List.getElem?_append_left (by omega), List.getD_eq_getElem?_getD, List.getElem?_append_left hid, ← List.getD_eq_getElem?_getD, ← List.getD_eq_getElem?_getD]
            exact E2.out i hid
          · have : i = done.length := by simp at hi; omega
            subst this
            rw [List.getD_eq_getElem?_getD, List.getElem?_append_right (by omega), List.getD_eq_getElem?_getD, List.getElem?_append_right (by omega), hv, Nat.sub_self]
            exact OB2.out.mono SZ.out
        · have hv := HV.out
          by_cases hjd : j < done.length
          · rw [List.getD_eq_getElem?_getD, List.getElem?_append_left (by omega), List.getD_eq_getElem?_getD, List.getElem?_append_left (by omega), ← List.getD_eq_getElem?_getD, ← List.getD_eq_getElem?_getD]
            exact HD.out i j hij hjd
          · have : j = done.length := by simp at hj; omega
            subst this
            rw [List.getD_eq_getElem?_getD, List.getElem?_append_left (by omega), List.getD_eq_getElem?_getD, List.getElem?_append_right (by omega), hv, Nat.sub_self, ← List.getD_eq_getElem?_getD]
            exact ⟨wr.heap.size, LT.out i hij, GE.out⟩
      case measure => simp [intOf]; omega
    · have hrest : rest = [] ∧ a = q := by
        have := HRu.out
        cases this with
        | stop _ h => exact ⟨rfl, rfl⟩
        | more _ p' b' bs _ h t =>
          rw [hX] at h
          simp only [Prod.mk.injEq] at h
          omega
      obtain ⟨rfl, rfl⟩ := hrest
      have hBs : Bs = done := by rw [HB.out]; simp
      subst hBs
      have n1 : ((er : Int) != 0) = true := bne_t (by omega)
      obtain ⟨Ao, co, rfl, _⟩ := HO.out.form
      clear hX
      go_wp2_with fail
      refine HCall.out.mono ?_
      rintro e w1 ⟨Ab, cb, rfl, hb, hbl⟩
      have O1 := Hd.mk (HO.out.below hbl)
      have E1 : Hd (∀ i, i < Bs.length → Own w.heap.size w1 (vs.getD i undef) (Bs.getD i [])) := ⟨fun i hi => (HE.out i hi).below hbl⟩
      have B1 := Hd.mk (bel_call0 HW.out hbl)
      clear hb hbl HCall
      go_wp2
      go_ret2
      exact ⟨Ao, co, vs, rfl, HV.out, O1.out, E1.out, HD.out, B1.out⟩

end Go.Proofs.YtbobigaifkffoaaDoor
