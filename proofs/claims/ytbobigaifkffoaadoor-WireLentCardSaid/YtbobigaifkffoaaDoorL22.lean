/-
  THE WALK of the law's helper: kept.
-/
import Derived.Test.YtbobigaifkffoaaDoorL21
import Derived.StillTailTactics
namespace Go.Proofs.YtbobigaifkffoaaDoor
open Go.RowKit
set_option linter.unusedVariables false
set_option linter.unusedSimpArgs false

/-- 'append(l, x)' to a list of byte slices of the call's own, in a drawn region. -/
theorem step_appV {w : World} {ops : Array Oper} {o : Oper} {a : Act} {K : Act → World → Prop} {Q : Exit → Act → World → Prop} {E : Prop} (hgd : o.guard = none) (s x : Operand)
    (ho : o.op = .call { callee := .builtin .append, args := #[s, x], argTypes := #[40, 40] }) (B : Nat) (v : Value) (A : Option Addr) (n c g c' : Nat) (vs : List Value) (hs : a.eval s = v)
    (hx : a.eval x = .slice (some ⟨g, 0, none⟩) 1 c') (hown : OwnV B w v vs) (hcell : w.cell? ⟨g, 0, none⟩ = some (.slice A n c)) (hlen : vs.length ≤ 1099511627776) (hbase : B ≤ w.heap.size)
    (h : ∀ v' w', OwnV B w' v' (vs ++ [.slice A n c]) → w.grownBy w' v.ownBlock → K (a.put o.dst v') w') :
    if Region.wanted o (yielded ops a.tmps) = true then Oper.wp Tryd.prog o a w K Q else E := by
  obtain ⟨i0, hi, hz0, hz1, hz2⟩ := info_parts info22
  obtain ⟨v', w', hrun, hown', hgr, _⟩ := run_append_own (P := Tryd.prog) w B 40 o.type 22 i0 (.slice none 0 0) 1 24 Tryd.underlying40 hi hz0 hz1 hz2 rfl (by decide) v vs.length vs hown ⟨g, 0, none⟩ 1 c' [.slice A n c] rfl
    (fun j u hj => by
      match j, hj with
      | 0, hj => simp at hj; subst hj; simpa [Addr.add] using hcell
      | j + 1, hj => simp at hj)
    (fun u hu => by
      simp at hu
      subst hu
      rfl) (by unfold maxLen; omega) (by omega) hbase
  rw [if_pos (by simp [Region.wanted, hgd])]
  unfold Oper.wp execOp
  simp only [ho, resolve, invoke, builtin, Sem.run_bind, Sem.run_pure, Result.andThen_ok, List.map_toArray, List.map_cons, List.map_nil, hs, hx, hrun]
  exact h v' w' (by unfold OwnV; rw [List.length_append]; exact hown') hgr

def OutK (Bs : List (List UInt8)) (w : World) (e : Ending) (w' : World) : Prop :=
  ∃ A c vs, e = .returned (.slice A vs.length c) ∧ vs.length = Bs.length ∧ OwnV w.heap.size w' (.slice A vs.length c) vs ∧
    (∀ i, i < Bs.length → Own w.heap.size w' (vs.getD i undef) (Bs.getD i [])) ∧ Below w.heap.size w w'

set_option maxRecDepth 100000 in
set_option maxHeartbeats 1000000 in
/-- 'kept'. -/
theorem kept_any (v : Value) (Ls : List (List UInt8)) (w : World) (h : RdL w v Ls) (hsm : Ls.length ≤ 1099511627776) :
    Calls Tryd.prog 39 #[v] w (OutK Ls w) := by
  obtain ⟨A, cap, rfl, hls⟩ := h.form
  have HR := Hd.mk h
  clear h
  go_enter Tryd.func39, Tryd.ntmps39
  go_wp2_with fail
  go_loopw [3, 4] (fun bo i wr => ∃ (k : Nat) (vs : List Value), i = .int .i64 k ∧ k ≤ Ls.length ∧ Hd (vs.length = k) ∧ Hd (OwnV w.heap.size wr bo vs) ∧
      Hd (∀ i, i < k → Own w.heap.size wr (vs.getD i undef) (Ls.getD i [])) ∧ Hd (Below w.heap.size w wr)) (fun _ i _ => Ls.length - (intOf i).toNat)
  case atStart => exact ⟨0, [], rfl, by omega, ⟨rfl⟩, ⟨OwnV.nil _ _⟩, ⟨fun i hi => absurd hi (Nat.not_lt_zero _)⟩, ⟨Below.refl _ _⟩⟩
  case round =>
    obtain ⟨k, vs, rfl, hk, HV, HO, HE, HW⟩ := hrel
    by_cases hlt : k < Ls.length
    · obtain ⟨ad, A1, c1, L1, rfl, hcell, hl1, HL1, HR1⟩ := HR.out.at_ k hlt
      go_wp2_with fail
      have HCell : Hd (∀ W, Below w.heap.size w W → W.cell? (ad.add k) = some (.slice A1 L1.length c1)) := ⟨fun W hW => cell_below hW hcell⟩
      have HCall := Hd.mk (dPart_e _ L1 L1 0 L1.length wr.drew (HR1.out.below HW.out.drew) (by omega) (Nat.le_refl _) (by simp))
      have HVl : Hd (vs.length ≤ 1099511627776) := ⟨by have := HV.out; omega⟩
      have hl1' := HR1.out.slice.2.2.2.1
      have i1 : (k : Int) < (Ls.length : Int) := by omega
      clear hcell
      go_region_held3 (fun w' => w'.cell? (ad.add k) = some (Value.slice A1 L1.length c1))
        (first | exact HCell.out _ HW.out.drew | exact HCell.out _ BB.out | exact HCell.out _ (BB.out.alloc BB.out.size _) | exact HCell.out _ BC.out)
        (first
          | (go_at_call 45; refine HCall.out.mono ?_; rintro e w1 ⟨Ab, cb, rfl, hb, hbl⟩; have BB : Hd (Below w.heap.size w w1) := ⟨bel_call0 HW.out.drew hbl⟩; have OB : Hd (Own w.heap.size w1 (.slice Ab L1.length cb) L1) := ⟨hb.mono HW.out.size⟩; have OV := Hd.mk ((HO.out.below (Below.refl _ _).drew).below hbl); have EE : Hd (∀ i, i < k → Own w.heap.size w1 (vs.getD i undef) (Ls.getD i [])) := ⟨fun i hi => ((HE.out i hi).below (Below.refl _ _).drew).below hbl⟩; clear hb hbl)
          | (refine step_appV (by rfl) _ _ (by rfl) w.heap.size _ Ab L1.length cb _ _ vs (by rfl) (by rfl) (OV.out.alloc _) (cell_new22 _ _) HVl.out (hb_alloc BB.out (Nat.le_refl _) _) ?_; intro v' w2 hown hgr; have BC : Hd (Below w.heap.size w w2) := ⟨bel_appV BB.out OV.out hgr⟩; have OV2 := Hd.mk hown; have E2 : Hd (∀ i, i < k → Own w.heap.size w2 (vs.getD i undef) (Ls.getD i [])) := ⟨fun i hi => own_other ((EE.out i hi).alloc _) (OV.out.alloc _) hgr⟩; have OB2 : Hd (Own w.heap.size w2 (.slice Ab L1.length cb) L1) := ⟨own_other (OB.out.alloc _) (OV.out.alloc _) hgr⟩; clear hown hgr))
      go_wp2
      go_roundw
      case rel =>
        refine ⟨k + 1, vs ++ [.slice Ab L1.length cb], by go_num, by omega, ⟨by have := HV.out; simp; omega⟩, OV2, ⟨fun i hi => ?_⟩, BC⟩
        have hv := HV.out
        by_cases hid : i < k
        · rw [List.getD_eq_getElem?_getD, List.getElem?_append_left (by omega), ← List.getD_eq_getElem?_getD]
          exact E2.out i hid
        · obtain rfl : i = k := by omega
          rw [List.getD_eq_getElem?_getD, List.getElem?_append_right (by omega), hv, Nat.sub_self, List.getD_eq_getElem?_getD, HL1.out]
          exact OB2.out
      case measure => simp [intOf]; omega
    · have hke : k = Ls.length := by omega
      subst hke
      obtain ⟨A2, c2, rfl, _⟩ := HO.out.form
      go_wp2
      go_ret
      exact ⟨A2, c2, vs, rfl, HV.out, HO.out, HE.out, HW.out⟩

end Go.Proofs.YtbobigaifkffoaaDoor
