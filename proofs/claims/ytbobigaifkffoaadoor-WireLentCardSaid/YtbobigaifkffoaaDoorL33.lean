/-
  THE WALK of the law's helper: answers.
-/
import Derived.Test.YtbobigaifkffoaaDoorL32
namespace Go.Proofs.YtbobigaifkffoaaDoor
open Go.RowKit
set_option linter.unusedVariables false
set_option linter.unusedSimpArgs false

/-- What the calls answer of one body. -/
def ans1 (L : List UInt8) : List (List UInt8) := [frmOut L, (rdF (frmOut L) 0).1, lenB L, (rdB (lenB L) 0 (lenB L).length).1]
def ansL (u : Nat) (i : Int) (Ls : List (List UInt8)) : List (List UInt8) := [uenc u, uenc (zig i)] ++ (Ls.map ans1).flatten
theorem ansL_snoc {u : Nat} {i : Int} {Ls : List (List UInt8)} {k : Nat} {L1 : List UInt8} (h : Ls[k]? = some L1) : ansL u i (Ls.take (k + 1)) = ansL u i (Ls.take k) ++ ans1 L1 := by
  obtain ⟨hk, rfl⟩ := List.getElem?_eq_some_iff.1 h
  unfold ansL
  rw [List.take_succ_eq_append_getElem hk, List.map_append, List.flatten_append]
  simp
theorem ansL_len (u : Nat) (i : Int) : ∀ Ls : List (List UInt8), (ansL u i Ls).length = 2 + 4 * Ls.length
  | [] => rfl
  | L :: Ls => by
    have := ansL_len u i Ls
    simp only [ansL, List.length_append, List.map_cons, List.flatten_cons, List.length_cons, ans1, List.length_nil] at this ⊢
    omega

def OutA (As : List (List UInt8)) (w : World) (e : Ending) (w' : World) : Prop :=
  ∃ A c vs, e = .returned (.slice A vs.length c) ∧ OwnV w.heap.size w' (.slice A vs.length c) vs ∧ Ra w.heap.size w' vs As ∧ Below w.heap.size w w'

set_option maxRecDepth 100000 in
set_option maxHeartbeats 3000000 in
/-- 'answers'. -/
theorem answers_any (u : Nat) (i : Int) (vp vb : Value) (Ls Bs : List (List UInt8)) (b : List UInt8) (q : Nat) (w : World) (hp : RdL w vp Ls) (hb : Rd w vb b) (hT : TabOk w) (hu : Is64 u) (hi : -9223372036854775808 ≤ i ∧ i ≤ 9223372036854775807)
    (hl : Ls.length ≤ 5000) (hf : Ls.flatten.length ≤ 4194304) (hbl : b.length ≤ 1099511627776) (hr : Runs b 0 Bs q) :
    Calls Tryd.prog 40 #[.int .u64 u, .int .i64 i, vp, vb] w (OutA (ansL u i Ls ++ Bs) w) := by
  obtain ⟨A2, c2, rfl, _⟩ := hp.form
  obtain ⟨A3, c3, rfl⟩ := hb.form
  obtain ⟨U, hU⟩ : ∃ U, uenc u = U := ⟨_, rfl⟩
  obtain ⟨I, hI⟩ : ∃ I, uenc (zig i) = I := ⟨_, rfl⟩
  have HP := Hd.mk hp
  have HBb := Hd.mk hb
  have HT := Hd.mk hT
  have HRu := Hd.mk hr
  have C1 := Hd.mk fun W => uint_e u U W hu hU
  have C3 := Hd.mk fun W => int_e i I W hi hI
  have HA0 : Hd (ansL u i (Ls.take 0) = [U, I]) := ⟨by simp [ansL, hU, hI]⟩
  have hbr := hr.bound
  clear hp hb hT hr hu hU hI
  go_enter Tryd.func40, Tryd.ntmps40
  go_wp2_with fail
  refine (C1.out _).mono ?_
  rintro e w1 ⟨A1, c1, rfl, ho, hb⟩
  have R1 := Hd.mk ((Ra.nil _ _).call hb ho (Nat.le_refl _))
  have B1 := Hd.mk hb
  clear ho hb C1
  go_wp2_with fail
  refine (C3.out _).mono ?_
  rintro e w2 ⟨A2', c2', rfl, ho, hb⟩
  have R2 : Hd (Ra w.heap.size w2 [.slice A1 U.length c1, .slice A2' I.length c2'] [U, I]) := ⟨R1.out.call hb ho B1.out.size⟩
  have B2 := Hd.mk (bel_call0 B1.out hb)
  clear ho hb C3 R1
  go_wp2_with (at_builtin; refine wpList_appVs rfl (.tmp 22) (.tmp 27) rfl w.heap.size _ _ [] _ rfl rfl ((OwnV.nil _ _).alloc _) (VsAt.new (by simp) rfl R2.out.one) (by simp) (hb_alloc B2.out (Nat.le_refl _) _) ?_; intro u3 w3 hown hgr hli; have V3 := Hd.mk hown; have R3 := Hd.mk ((R2.out.alloc _).other ((OwnV.nil w.heap.size _).alloc _) hgr); have B3 := Hd.mk (bel_appV B2.out (OwnV.nil _ _) hgr); clear hown hgr hli)
  go_loopw [9, 10] (fun l ix wr => ∃ (k : Nat) (vs : List Value), ix = .int .i64 k ∧ k ≤ Ls.length ∧ Hd (OwnV w.heap.size wr l vs) ∧ Hd (Ra w.heap.size wr vs (ansL u i (Ls.take k))) ∧ Hd (Below w.heap.size w wr)) (fun _ ix _ => Ls.length - (intOf ix).toNat)
  case atStart => exact ⟨0, _, rfl, by omega, V3, ⟨by rw [HA0.out]; exact R3.out⟩, B3⟩
  case round =>
    clear V3 R3 B3 R2 B2 B1
    obtain ⟨k, vs, rfl, hk, HV, HRa, HB⟩ := hrel
    by_cases hlt : k < Ls.length
    · obtain ⟨ad, A1, c1, L1, rfl, hcell, hl1, HL1, HR1⟩ := (HP.out.below HB.out).at_ k hlt
      have hL1 : L1.length ≤ 4194304 := by
        have := flat_snoc Ls k L1 HL1.out
        have h2 := flat_take Ls (k + 1)
        rw [this, List.length_append] at h2
        omega
      have HAn := Hd.mk (ansL_snoc (u := u) (i := i) HL1.out)
      obtain ⟨F, hF⟩ : ∃ F, frmOut L1 = F := ⟨_, rfl⟩
      obtain ⟨er, he⟩ : ∃ er, frmErr L1 = er := ⟨_, rfl⟩
      obtain ⟨Y, p1, e1, hY⟩ : ∃ x p e, rdF F 0 = (x, p, e) := ⟨_, _, _, rfl⟩
      obtain ⟨C, hC⟩ : ∃ C, lenB L1 = C := ⟨_, rfl⟩
      obtain ⟨S, p2, e2, hS⟩ : ∃ x p e, rdB C 0 C.length = (x, p, e) := ⟨_, _, _, rfl⟩
      have HA1 : Hd (ans1 L1 = [F, Y, C, S]) := ⟨by unfold ans1; rw [hF, hY, hC, hS]⟩
      have hCl : C.length ≤ 140737488355328 := by rw [← hC, lenB, List.length_append]; have := uenc_len10 (v := L1.length) (Is64.mk (by omega)); omega
      have CF := Hd.mk (frame_e _ [L1] L1 F er (wr.alloc (.cells #[.slice A1 L1.length c1] 22)) (RdL.new1 HR1.out) ((HT.out.below HB.out).alloc _) (by simp) he hF)
      have CY := Hd.mk fun W V (h : Rd W V F) (hT : TabOk W) => readFrame_e V F Y 0 p1 e1 W h hT (by omega) hY
      have CC := Hd.mk fun W (h : Rd W (.slice A1 L1.length c1) L1) => bytes_e _ L1 C W h (by omega) hC
      have CS := Hd.mk fun W V (h : Rd W V C) => readBytes_e V C S 0 C.length p2 e2 W h (by omega) (by omega) hS
      have i1 : (k : Int) < (Ls.length : Int) := by omega
      clear hF he hY hC hS hl1
      go_wp2_with fail
      refine CF.out.mono ?_
      rintro e w4 ⟨A4, c4, rfl, ho, hb0⟩
      have hb : Below wr.heap.size wr w4 := bel_call (Below.refl _ _) _ hb0
      have RF := Hd.mk ho.rd
      have R4 := Hd.mk (HRa.out.call hb (ho.mono (hb_alloc (Below.refl _ _) (Nat.le_refl _) _)) HB.out.size)
      have V4 := Hd.mk (HV.out.below hb)
      have B4 := Hd.mk (bel_call0 HB.out hb)
      have Q4 := Hd.mk (HR1.out.below hb)
      have f4 := cell_below hb hcell
      clear hb hb0 ho CF HRa HV hcell
      go_wp2_with fail
      refine (CY.out _ _ RF.out (HT.out.below B4.out)).mono ?_
      rintro e w5 ⟨A5, c5, rfl, ho, hb⟩
      have R5 := Hd.mk (R4.out.call hb ho B4.out.size)
      have V5 := Hd.mk (V4.out.below hb)
      have B5 := Hd.mk (bel_call0 B4.out hb)
      have Q5 := Hd.mk (Q4.out.below hb)
      have f5 := cell_below hb f4
      clear hb ho CY R4 V4 RF Q4 f4
      go_wp2_with fail
      refine (CC.out _ Q5.out).mono ?_
      rintro e w6 ⟨A6, c6, rfl, ho, hb⟩
      have RC := Hd.mk ho.rd
      have R6 := Hd.mk (R5.out.call hb ho B5.out.size)
      have V6 := Hd.mk (V5.out.below hb)
      have B6 := Hd.mk (bel_call0 B5.out hb)
      clear hb ho CC R5 V5 Q5 f5 B4
      go_wp2_with fail
      refine (CS.out _ _ RC.out).mono ?_
      rintro e w7 ⟨A7, c7, rfl, ho, hb⟩
      have R7 := Hd.mk (R6.out.call hb ho B6.out.size)
      have V7 := Hd.mk (V6.out.below hb)
      have B7 := Hd.mk (bel_call0 B6.out hb)
      clear hb ho CS R6 V6 RC B5 B6
      have R8 : Hd (Ra w.heap.size w7 (vs ++ [.slice A4 F.length c4, .slice A5 Y.length c5, .slice A6 C.length c6, .slice A7 S.length c7]) (ansL u i (Ls.take (k + 1)))) := ⟨by
        rw [HAn.out, HA1.out]
        simpa using R7.out⟩
      have hvl : Hd (vs.length + 4 ≤ 1099511627776) := ⟨by
        have h1 := R8.out.1
        rw [ansL_len, List.length_take, List.length_append] at h1
        simp at h1
        omega⟩
      clear R7
      go_wp2_with (at_builtin; refine wpList_appVs rfl (.tmp 63) (.tmp 68) rfl w.heap.size _ _ vs _ rfl rfl (V7.out.alloc _) (VsAt.new (by simp) rfl (fun u hu => R8.out.one u (List.mem_append_right _ hu))) hvl.out (hb_alloc B7.out (Nat.le_refl _) _) ?_; intro u9 w9 hown hgr hli; have V9 := Hd.mk hown; have R9 := Hd.mk ((R8.out.alloc _).other (V7.out.alloc _) hgr); have B9 := Hd.mk (bel_appV B7.out V7.out hgr); clear hown hgr hli)
      go_roundw
      case rel => exact ⟨k + 1, _, by go_num, by omega, V9, R9, B9⟩
      case measure => simp [intOf]; omega
    · obtain rfl : k = Ls.length := by omega
      rw [List.take_length] at HRa
      have hvl : Hd (vs.length ≤ 100000) := ⟨by
        have h1 := HRa.out.1
        rw [ansL_len] at h1
        omega⟩
      obtain ⟨A9, c9, rfl, _⟩ := HV.out.form
      have CR := Hd.mk (readFrames_any _ b 0 q Bs wr (HBb.out.below HB.out) (HT.out.below HB.out) (by omega) (by omega) HRu.out)
      have hbs : Hd (Bs.length ≤ 1099511527776) := ⟨by omega⟩
      go_wp2_with fail
      refine CR.out.mono ?_
      rintro e w4 ⟨A4, c4, us, rfl, hul, hv, he, hd, hb⟩
      have R4 : Hd (Ra w.heap.size w4 (vs ++ us) (ansL u i Ls ++ Bs)) := ⟨(HRa.out.below hb).join (m := wr.heap.size) ⟨hul, he, fun i j hij hj q hq hq2 => by
        obtain ⟨m, h1, h2⟩ := hd i j hij (by omega)
        have := h1 q hq
        have := h2 q hq2
        omega⟩ (fun i hi q hq => (HRa.out.lt i hi q hq).2) HB.out.size⟩
      have V4 := Hd.mk (HV.out.below hb)
      have U4 := Hd.mk hv
      have B4 := Hd.mk (bel_call0 HB.out hb)
      have hl4 : Hd (vs.length + us.length ≤ 1099511627776) := ⟨by have := hvl.out; have := hbs.out; omega⟩
      clear hul hv he hd hb CR HRa HV
      go_wp2_with (at_builtin; refine wpList_appVs rfl (.tmp 75) (.tmp 76) rfl w.heap.size _ _ vs us rfl rfl V4.out (U4.out.vsAt (fun u hu => R4.out.one u (List.mem_append_right _ hu))) hl4.out B4.out.size ?_; intro u9 w9 hown hgr hli; have V9 := Hd.mk hown; have R9 := Hd.mk (R4.out.other V4.out hgr); have B9 := Hd.mk (B4.out.grown hgr B4.out.size (fun g hk => (World.ownsRow.lt V4.out g hk).1)); clear hown hgr hli)
      go_ret
      obtain ⟨A10, c10, rfl, _⟩ := V9.out.form
      exact ⟨A10, c10, _, rfl, V9.out, R9.out, B9.out⟩

end Go.Proofs.YtbobigaifkffoaaDoor
