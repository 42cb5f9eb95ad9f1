import Derived.Test.YtbobigaifkffoaaDoorL2
import Derived.Test.YtbobigaifkffoaaDoorL4
namespace Go.Proofs.YtbobigaifkffoaaDoor
open Go.RowKit
set_option linter.unusedVariables false
set_option linter.unusedSimpArgs false

theorem flat_snoc (Ls : List (List UInt8)) (k : Nat) (L1 : List UInt8) (h : Ls[k]? = some L1) : (Ls.take (k + 1)).flatten = (Ls.take k).flatten ++ L1 := by
  obtain ⟨hk, rfl⟩ := List.getElem?_eq_some_iff.1 h
  rw [List.take_succ_eq_append_getElem hk, List.flatten_append]
  simp
theorem flat_le (Ls : List (List UInt8)) (k : Nat) : (Ls.take k).flatten.length ≤ Ls.flatten.length := by
  have h := congrArg List.length (congrArg List.flatten (List.take_append_drop k Ls))
  rw [List.flatten_append, List.length_append] at h
  omega

/-- A byte slice of the call's own and an error. -/
def OutB (err : Nat) (F : List UInt8) (w : World) (e : Ending) (w' : World) : Prop :=
  ∃ r, e = .returned (.tuple #[r, .int .i64 (err : Int)]) ∧ Own w.heap.size w' r F ∧ Below w.heap.size w w'

theorem frm_over {M : List UInt8} (h : 1048576 < M.length) : frmErr M = 13 ∧ frmOut M = [] := by
  unfold frmErr frmOut
  rw [if_neg (by omega), if_pos h, if_pos (.inr h)]
  exact ⟨rfl, rfl⟩
theorem frm_empty {M : List UInt8} (h : M.length = 0) : frmErr M = 14 ∧ frmOut M = [] := by
  unfold frmErr frmOut
  rw [if_pos h, if_pos (.inl h)]
  exact ⟨rfl, rfl⟩
theorem frm_good {M : List UInt8} (h0 : M.length ≠ 0) (h : M.length ≤ 1048576) : frmErr M = 0 ∧ frmOut M = frm M := by
  unfold frmErr frmOut
  rw [if_neg h0, if_neg (by omega), if_neg (by omega)]
  exact ⟨rfl, rfl⟩

theorem le4_cells (d : BitVec 32) : #[Value.int .u8 ((d.toNat : Int) % 256), .int .u8 ((d.toNat : Int) / 256 % 256), .int .u8 ((d.toNat : Int) / 65536 % 256), .int .u8 ((d.toNat : Int) / 16777216), .int .u8 165] = (ebs (le4 d ++ [165])).toArray := by
  have := d.isLt
  simp only [ebs, le4, List.map_append, List.map_cons, List.map_nil, List.cons_append, List.nil_append, eb]
  congr 3
  · simp <;> omega
  congr 2
  · simp <;> omega
  congr 2
  · simp <;> omega
  congr 2
  · simp <;> omega

set_option maxRecDepth 100000 in
set_option maxHeartbeats 4000000 in
/-- 'wire.Frame'. -/
theorem frame_any (v : Value) (Ls : List (List UInt8)) (M : List UInt8) (w : World) (h : RdL w v Ls) (hT : TabOk w) (hM : Ls.flatten = M) :
    Calls Tryd.prog 23 #[v] w (OutB (frmErr M) (frmOut M) w) := by
  obtain ⟨A, cap, rfl, hl⟩ := h.form
  have HR := Hd.mk h
  have HT := Hd.mk hT
  have HM := Hd.mk hM
  clear h hT hM
  obtain ⟨er, hER⟩ : ∃ er, frmErr M = er := ⟨_, rfl⟩
  obtain ⟨F, hF⟩ : ∃ F, frmOut M = F := ⟨_, rfl⟩
  rw [hER, hF]
  have HER := Hd.mk hER
  have HFF := Hd.mk hF
  clear hER hF
  go_enter Tryd.func23, Tryd.ntmps23
  go_wp2
  go_loop [4, 14] (fun n i => ∃ (m k : Nat), n = .int .i64 m ∧ i = .int .i64 k ∧ k ≤ Ls.length ∧ m ≤ 1048576 ∧ Hd (m = (Ls.take k).flatten.length)) (fun _ i => Ls.length - (intOf i).toNat)
  case atStart => exact ⟨0, 0, rfl, rfl, by omega, by omega, ⟨by simp⟩⟩
  case round =>
    obtain ⟨m, k, rfl, rfl, hk, hm, HE⟩ := hrel
    by_cases hlt : k < Ls.length
    · obtain ⟨ad, A1, c1, L1, rfl, hcell, hl1, HL1, HR1⟩ := HR.out.at_ k hlt
      have hfl := flat_snoc Ls k L1 HL1.out
      have HF := Hd.mk hfl
      clear hfl
      by_cases hbig : 1048576 < m + L1.length
      · have hML : 1048576 < M.length := by
          have h1 := flat_le Ls (k + 1)
          rw [HF.out, List.length_append, ← HE.out, HM.out] at h1
          omega
        obtain rfl : er = 13 := HER.out.symm.trans (frm_over hML).1
        obtain rfl : F = [] := HFF.out.symm.trans (frm_over hML).2
        clear hML
        go_wp2
        go_ret2
        exact ⟨_, rfl, Own.nil _ _, Below.refl _ _⟩
      · go_wp2
        go_round
        case rel => exact ⟨m + L1.length, k + 1, by go_num, by go_num, by omega, by omega, ⟨by rw [HF.out, List.length_append, ← HE.out]⟩⟩
        case measure => simp [intOf]; omega
    · have hML : M.length = m := by rw [← HM.out, HE.out, List.take_of_length_le (by omega)]
      by_cases h0 : m = 0
      · obtain rfl : er = 14 := HER.out.symm.trans (frm_empty (by omega)).1
        obtain rfl : F = [] := HFF.out.symm.trans (frm_empty (by omega)).2
        have h1 : m ≤ 0 := by omega
        clear hML h0
        go_wp2
        go_ret2
        exact ⟨_, rfl, Own.nil _ _, Below.refl _ _⟩
      · obtain rfl : er = 0 := HER.out.symm.trans (frm_good (by omega) (by omega)).1
        obtain rfl : F = frm M := HFF.out.symm.trans (frm_good (by omega) (by omega)).2
        have HML := Hd.mk hML
        have h1 : 1 ≤ m := by omega
        have C1 := Hd.mk (uint_any m w (Is64.mk (by omega)))
        have hul := uenc_len10 (v := m) (Is64.mk (by omega))
        obtain ⟨U, hU⟩ : ∃ U, uenc m = U := ⟨_, rfl⟩
        rw [hU] at C1 hul
        have HU := Hd.mk hU
        clear hML h0 hU HER HFF
        go_wp2_with fail
        refine C1.out.mono ?_; rintro e w1 ⟨u, rfl, hu, hb⟩
        obtain ⟨Au, cu, rfl⟩ := hu.rd.form
        have RU := Hd.mk hu.rd
        have B1 := Hd.mk hb
        clear hu hb C1
        go_wp2_with (first
          | (at_make; refine wpList_mk0 rfl _ _ rfl w.heap.size _ _ _ (U.length + m + 5) rfl rfl (by omega) (by omega) B1.out.size ?_; intro w2 hown hgr; have O2 := Hd.mk hown; have RU2 := Hd.mk (RU.out.below (Below.grown (Below.refl _ _) hgr (Nat.le_refl _) (fun _ h => by cases h))); have B2 := Hd.mk (bel_grown B1.out hgr); clear hown hgr)
          | (at_builtin; refine wpList_app rfl (.tmp 36) (.tmp 37) rfl w.heap.size _ _ [] U rfl rfl O2.out RU2.out (by simp; omega) B2.out.size ?_; intro u3 w3 hown hgr; have O3 := Hd.mk hown; have B3 := Hd.mk (bel_app0 B2.out O2.out hgr); clear hown hgr))
        go_loopw [8, 41] (fun o i wr => ∃ k : Nat, i = .int .i64 k ∧ k ≤ Ls.length ∧ Hd (Own w.heap.size wr o (U ++ (Ls.take k).flatten)) ∧ Hd (Below w.heap.size w wr)) (fun _ i _ => Ls.length - (intOf i).toNat)
        case atStart => exact ⟨0, rfl, by omega, ⟨by simpa using O3.out⟩, B3⟩
        case round =>
          clear O2 O3 B2 B3 RU RU2 B1
          obtain ⟨q, rfl, hq, HO, HB⟩ := hrel
          by_cases hlt2 : q < Ls.length
          · obtain ⟨ad, A1, c1, L1, rfl, hcell, hl1, HL1, HR1⟩ := (HR.out.below HB.out).at_ q hlt2
            have HF := Hd.mk (flat_snoc Ls q L1 HL1.out)
            have hLL : Hd ((U ++ (Ls.take q).flatten).length + L1.length ≤ 140737555464192) := ⟨by
              have h1 := flat_le Ls (q + 1)
              rw [HF.out, HM.out, HML.out, List.length_append] at h1
              simp only [List.length_append]
              omega⟩
            go_wp2_with (at_builtin; refine wpList_app rfl _ _ rfl w.heap.size _ _ _ L1 rfl rfl HO.out HR1.out hLL.out HB.out.size ?_; intro u3 w3 hown hgr; have O3 := Hd.mk hown; have B3 := Hd.mk (bel_app0 HB.out HO.out hgr); clear hown hgr)
            go_roundw
            case rel => exact ⟨q + 1, by go_num, by omega, ⟨by rw [HF.out, ← List.append_assoc]; exact O3.out⟩, B3⟩
            case measure => simp [intOf]; omega
          · have hall : U ++ (Ls.take q).flatten = lenB M := by
              rw [List.take_of_length_le (by omega), HM.out, ← HU.out, ← HML.out]; rfl
            rw [hall] at HO
            obtain ⟨B, hB⟩ : ∃ B, lenB M = B := ⟨_, rfl⟩
            rw [hB] at HO
            have HBB := Hd.mk hB
            have hBl : B.length ≤ 1048586 := by rw [← hB]; unfold lenB; rw [List.length_append, HML.out, HU.out]; omega
            obtain ⟨d, hd⟩ : ∃ d, crc B = d := ⟨_, rfl⟩
            have HD := Hd.mk hd
            clear hB hd hall
            obtain ⟨Ao, co, rfl⟩ := HO.out.rd.form
            have hd32 := d.isLt
            go_wp2_with fail
            refine (sum_e _ [B] d _ (RdL.at1 rfl HO.out.rd) (((HT.out.below HB.out)).alloc _) (by simpa using HD.out)).mono ?_
            rintro e w4 ⟨rfl, hb⟩
            have O4 := Hd.mk (HO.out.below (((Below.refl _ _).alloc (Nat.le_refl _) _).trans (hb.mono (by simp))))
            have B4 := Hd.mk (bel_call HB.out _ hb)
            clear hb
            go_wp2_with (at_builtin; refine wpList_app rfl (.tmp 52) (.tmp 64) rfl w.heap.size _ _ _ (le4 d ++ [165]) rfl rfl (O4.out.alloc _) (Rd.atN _ 5 _ rfl (le4_cells d) rfl (by simp [le4])) (by simp [le4]; omega) (hb_alloc B4.out (Nat.le_refl _) _) ?_; intro u5 w5 hown hgr; have O5 := Hd.mk hown; have B5 := Hd.mk (bel_app B4.out O4.out hgr); clear hown hgr)
            go_ret2
            refine ⟨_, rfl, ?_, B5.out⟩
            have h5 := O5.out
            rw [← HD.out, ← HBB.out] at h5
            exact h5

end Go.Proofs.YtbobigaifkffoaaDoor
