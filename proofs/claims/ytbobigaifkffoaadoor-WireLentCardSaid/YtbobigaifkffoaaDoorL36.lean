/-
  THE WALK of the law's helper: filled.
-/
import Derived.Test.YtbobigaifkffoaaDoorL35
namespace Go.Proofs.YtbobigaifkffoaaDoor
open Go.RowKit
set_option linter.unusedVariables false
set_option linter.unusedSimpArgs false

/-- What filled hands out. -/
def OutFi (B Bl : Nat) (lv : Value) (vs : List Value) (N : Nat → Nat) (w : World) (e : Ending) (w' : World) : Prop :=
  ∃ A c us, e = .returned (.slice A us.length c) ∧ us.length = 3 * vs.length ∧ OwnV w.heap.size w' (.slice A us.length c) us ∧ OwnV Bl w' lv vs ∧
    (∀ j, j < vs.length → Own B w' (vs.getD j undef) (txt j (N j) 0)) ∧
    (∀ j c, j < vs.length → c < 3 → Own B w' (us.getD (3 * j + c) undef) (txt j (N j) (cnt c))) ∧
    (∀ j c, j < vs.length → c < 3 → ∀ q, (us.getD (3 * j + c) undef).ownBlock = some q → (vs.getD j undef).ownBlock = some q ∨ w.heap.size ≤ q) ∧ Touch vs w w'

theorem mark_set {m : UInt8} {k : Nat} {L : List UInt8} (hk : k < L.length) : (List.replicate k m ++ L.drop k).set k m = List.replicate (k + 1) m ++ L.drop (k + 1) := by
  rw [List.set_append_right _ _ (by simp), List.length_replicate, Nat.sub_self, List.drop_eq_getElem_cons hk, List.replicate_succ', List.append_assoc]
  rfl

theorem hb_alloc0 {B : Nat} {w : World} (h : B ≤ w.heap.size) (o : Obj) : B ≤ (w.alloc o).heap.size := by simp; omega

set_option maxRecDepth 100000 in
set_option maxHeartbeats 3000000 in
/-- 'filled'. -/
theorem filled_any (B Bl : Nat) (lv : Value) (vs : List Value) (Ls : List (List UInt8)) (w : World) (hv : OwnV Bl w lv vs) (hr : Ra B w vs Ls) (hn : vs.length ≤ 1099511627) (hl : ∀ i, i < Ls.length → (Ls.getD i []).length ≤ 140737488355328) (hB : B ≤ w.heap.size) :
    Calls Tryd.prog 41 #[lv] w (OutFi B Bl lv vs (fun j => (Ls.getD j []).length) w) := by
  obtain ⟨Al, cl, rfl, _⟩ := hv.form
  obtain ⟨hlen, hown, hap⟩ := hr
  obtain ⟨N, hN⟩ : ∃ N : Nat → Nat, ∀ j, (Ls.getD j []).length = N j := ⟨_, fun _ => rfl⟩
  have hNf : (fun j => (Ls.getD j []).length) = N := funext hN
  rw [hNf]
  have HNe := Hd.mk hN
  have HLv : Hd (∀ q, (Value.slice Al vs.length cl).ownBlock = some q → q < w.heap.size) := ⟨fun q hq => (World.ownsRow.lt hv q hq).2⟩
  clear hN hNf
  have HL := Hd.mk hlen
  have HA := Hd.mk hap
  have HN := Hd.mk hl
  have HBs := Hd.mk hB
  have HOld : Hd (∀ j, j < vs.length → ∀ q, (vs.getD j undef).ownBlock = some q → q < w.heap.size) := ⟨fun j hj q hq => ((hown j (by omega)).2.lt q hq).2⟩
  have V0 := Hd.mk hv
  have O0 : Hd (∀ j, j < vs.length → Own B w (vs.getD j undef) (Ls.getD j [])) := ⟨fun j hj => hown j (by omega)⟩
  clear hv hlen hown hap hl hB
  go_enter Tryd.func41, Tryd.ntmps41
  go_wp2_with fail
  go_loopw [3] (fun i wr => ∃ k : Nat, i = .int .i64 k ∧ k ≤ vs.length ∧ Hd (OwnV Bl wr (.slice Al vs.length cl) vs) ∧ Hd (∀ j, j < vs.length → Own B wr (vs.getD j undef) (if j < k then txt j (Ls.getD j []).length 0 else Ls.getD j [])) ∧ Hd (Touch vs w wr)) (fun i _ => vs.length - (intOf i).toNat)
  case atStart => exact ⟨0, rfl, by omega, V0, ⟨fun j hj => by simpa using O0.out j hj⟩, ⟨Touch.refl _ _⟩⟩
  case round =>
    clear V0 O0
    obtain ⟨k, rfl, hk, HV, HO, HT⟩ := hrel
    by_cases hlt : k < vs.length
    · obtain ⟨A1, c1, hf⟩ : ∃ A c, vs.getD k undef = .slice A (Ls.getD k []).length c := by
        have := HO.out k hlt
        rw [if_neg (Nat.lt_irrefl _)] at this
        exact this.rd.form
      obtain ⟨L1, hL1⟩ : ∃ L1, Ls.getD k [] = L1 := ⟨_, rfl⟩
      rw [hL1] at hf
      have hL1l : L1.length ≤ 140737488355328 := by have := HN.out k (by have := HL.out; omega); rw [hL1] at this; exact this
      obtain ⟨gl, rfl⟩ : ∃ gl, Al = some ⟨gl, 0, none⟩ := by
        obtain ⟨g, e, _⟩ := HV.out.at_ k (vs.getD k undef) (by rw [List.getD_eq_getElem?_getD, List.getElem?_eq_getElem hlt]; rfl)
        exact ⟨g, e⟩
      have HF := Hd.mk hf
      have HL1 := Hd.mk hL1
      obtain ⟨g, hg⟩ : ∃ g, 1 + k % 250 = g := ⟨_, rfl⟩
      have g1 : g < 256 := by omega
      have e1 : ((1 : Int) + (Int.tmod (k : Int) 250)) = (g : Int) := by rw [Int.tmod_eq_emod_of_nonneg (by omega)]; omega
      have e2 : ((1 : Int) + ((k : Int) % 250)) = (g : Int) := by omega
      have HM : Hd (mk1 k = UInt8.ofNat g) := ⟨by rw [← hg]; rfl⟩
      have i1 : (k : Int) < (vs.length : Int) := by omega
      clear hf hL1 hg
      go_wp2_with fail
      go_loopw [4] (fun i wq => ∃ m : Nat, i = .int .i64 m ∧ m ≤ L1.length ∧ Hd (OwnV Bl wq (.slice (some ⟨gl, 0, none⟩) vs.length cl) vs) ∧ Hd (∀ j, j < vs.length → j ≠ k → Own B wq (vs.getD j undef) (if j < k then txt j (Ls.getD j []).length 0 else Ls.getD j [])) ∧
          Hd (Own B wq (.slice A1 L1.length c1) (List.replicate m (mk1 k) ++ L1.drop m)) ∧ Hd (Touch vs w wq)) (fun i _ => L1.length - (intOf i).toNat)
      case atStart => exact ⟨0, rfl, by omega, HV, ⟨fun j hj _ => HO.out j hj⟩, ⟨by have := HO.out k hlt; rw [if_neg (Nat.lt_irrefl _), HF.out, HL1.out] at this; simpa using this⟩, HT⟩
      case round =>
        clear HV HO HT
        obtain ⟨m, rfl, hm, HV, HO, HK, HT⟩ := hrel
        have hcell := HV.out.cellk hlt
        rw [HF.out] at hcell
        by_cases hml : m < L1.length
        · have hne : List.replicate m (mk1 k) ++ L1.drop m ≠ [] := by
            intro e
            have := congrArg List.length e
            simp at this
            omega
          obtain ⟨gk, ck, e, _, _⟩ := HK.out.head hne
          injection e with e3 e4 e5
          subst e3
          clear hne e4 e5 ck
          obtain ⟨hcell2, hfr⟩ := HK.out.at_ m (by simp; omega)
          have hgv : (((mk1 k).toNat : Nat) : Int) = (g : Int) := by rw [HM.out]; simp; omega
          have O1 := HK.out.stored m (mk1 k)
          rw [mark_set hml, hgv] at O1
          have O1' := Hd.mk O1
          have V1 := Hd.mk (HV.out.setE HK.out (g := gk) (j := m) rfl (.int .u8 (g : Int)))
          have T1 := Hd.mk (HT.out.set (j := m) hlt (show (vs.getD k undef).ownBlock = some gk by rw [HF.out]; rfl) (.int .u8 (g : Int)))
          have P1 : Hd (∀ j, j < vs.length → j ≠ k → Own B (wr.setCell ⟨gk, m, none⟩ (.int .u8 (g : Int))) (vs.getD j undef) (if j < k then txt j (Ls.getD j []).length 0 else Ls.getD j [])) := ⟨fun j hj hjk => (HO.out j hj hjk).setO (show _ ≠ some gk by
            intro hq
            rcases Nat.lt_or_gt_of_ne hjk with h1 | h1
            · exact HA.out j k h1 hlt gk hq (by rw [HF.out]; rfl)
            · exact HA.out k j h1 hj gk (by rw [HF.out]; rfl) hq) _⟩
          clear O1 hgv
          go_wp2_with fail
          go_roundw
          case rel => exact ⟨m + 1, by go_num, by omega, V1, P1, O1', T1⟩
          case measure => simp [intOf]; omega
        · obtain rfl : m = L1.length := by omega
          have P1 : Hd (∀ j, j < vs.length → Own B wr (vs.getD j undef) (if j < k + 1 then txt j (Ls.getD j []).length 0 else Ls.getD j [])) := ⟨fun j hj => by
            by_cases hjk : j = k
            · subst hjk
              rw [if_pos (by omega), HF.out, HL1.out]
              have := HK.out
              rw [List.drop_length, List.append_nil] at this
              simpa [txt] using this
            · have := HO.out j hj hjk
              by_cases h1 : j < k
              · rw [if_pos h1] at this
                rw [if_pos (by omega)]
                exact this
              · rw [if_neg h1] at this
                rw [if_neg (by omega)]
                exact this⟩
          go_wp2_with fail
          go_roundw
          case rel => exact ⟨k + 1, by go_num, by omega, HV, P1, HT⟩
          case measure => simp [intOf]; omega
    · obtain rfl : k = vs.length := by omega
      have HNb : Hd (∀ j, j < vs.length → N j ≤ 140737488355328) := ⟨fun j hj => by rw [← HNe.out j]; exact HN.out j (by have := HL.out; omega)⟩
      have HO2 : Hd (∀ j, j < vs.length → Own B wr (vs.getD j undef) (txt j (N j) 0)) := ⟨fun j hj => by have := HO.out j hj; rw [if_pos hj, HNe.out j] at this; exact this⟩
      clear HO HN
      go_wp2_with fail
      go_loopw [5, 6] (fun l ix wr => ∃ (k : Nat) (us : List Value), ix = .int .i64 k ∧ k ≤ vs.length ∧ Hd (Fil w wr wr B Bl k (.slice Al vs.length cl) l vs us N) ∧ Hd (us.length = 3 * k) ∧
          Hd (∀ j c, j < k → c < 3 → ∀ q, (us.getD (3 * j + c) undef).ownBlock = some q → (vs.getD j undef).ownBlock = some q ∨ w.heap.size ≤ q)) (fun _ ix _ => vs.length - (intOf ix).toNat)
      case atStart => exact ⟨0, [], rfl, by omega, ⟨OwnV.nil _ _, HV.out, HO2.out, fun j c hj => absurd hj (Nat.not_lt_zero _), HT.out, Nat.le_refl _⟩, ⟨rfl⟩, ⟨fun j c hj => absurd hj (Nat.not_lt_zero _)⟩⟩
      case round =>
        clear HV HO2 HT
        obtain ⟨k, us, rfl, hk, HFil, HUl, HNew⟩ := hrel
        by_cases hlt : k < vs.length
        · have HBlk : Hd (Blk w wr k vs us) := ⟨hlt, HA.out, HOld.out, fun j c hj hc q hq => (HNew.out j c hj hc q hq).imp id fun h1 => ⟨h1, ((HFil.out.grp j c hj hc).2.lt q hq).2⟩, HFil.out.touch.size, HUl.out⟩
          obtain ⟨A1, c1, hf⟩ := (HFil.out.own k hlt).rd.form
          rw [txt_len, Nat.add_zero] at hf
          obtain ⟨gl, rfl⟩ : ∃ gl, Al = some ⟨gl, 0, none⟩ := by
            obtain ⟨g, e, _⟩ := HFil.out.list.at_ k (vs.getD k undef) (by rw [List.getD_eq_getElem?_getD, List.getElem?_eq_getElem hlt]; rfl)
            exact ⟨g, e⟩
          have hNk := HNb.out k hlt
          have HF := Hd.mk hf
          have hkk : k ≤ 1099511627776 := by omega
          have HT1 := Hd.mk (tail_any k 1 wr.drew hkk (by omega))
          have F0 := Hd.mk (HFil.out.below (Below.refl _ _).drew)
          have HC0 : Hd (wr.drew.cell? ⟨gl, k, none⟩ = some (.slice A1 (N k) c1)) := ⟨by rw [← HF.out]; exact F0.out.list.cellk hlt⟩
          have i1 : (k : Int) < (vs.length : Int) := by omega
          clear hf HFil HNew
          go_wp2_with fail
          go_region_held3 (fun w' => w'.cell? ⟨gl, k, none⟩ = some (Value.slice A1 (N k) c1))
            (first | exact HC0.out | exact HC1.out | exact HC2.out)
            (first
              | (go_at_call 56; refine HT1.out.mono ?_; rintro e w1 ⟨Ab, cb, rfl, hb, hbl⟩; have F1 := Hd.mk (F0.out.below hbl); have HC1 : Hd (w1.cell? ⟨gl, k, none⟩ = some (.slice A1 (N k) c1)) := ⟨by rw [← HF.out]; exact F1.out.list.cellk hlt⟩; have OT1 := Hd.mk hb; have BT1 : Hd (Below wr.heap.size wr w1) := ⟨bel_call0 (Below.refl _ _).drew hbl⟩; clear hb hbl)
              | (refine step_appK (by rfl) _ _ (by rfl) B (.slice A1 (N k) c1) _ (txt k (N k) 0) (List.replicate 1 (mk2 k)) (by rfl) (by rfl) (by rw [← HF.out]; exact F1.out.own k hlt) OT1.out.rd (by simp) (by rw [txt_len, List.length_replicate]; omega) (Nat.le_trans HBs.out F1.out.touch.size) ?_; intro v1 w2 hout; have hM0 : Mem wr w1 B k vs N (.slice A1 (N k) c1) 0 := (by rw [← HF.out]; exact F1.out.mem HBlk.out); have F2 := Hd.mk (F1.out.app HBlk.out hM0 hout); have M2 := Hd.mk (hM0.new F1.out.size hout); have HK1 : Hd (∀ u a, Mem wr w1 B k vs N u a → Mem wr w2 B k vs N u a) := ⟨fun u a hu => hu.app hout⟩; have HC2 : Hd (w2.cell? ⟨gl, k, none⟩ = some (.slice A1 (N k) c1)) := ⟨by rw [← HF.out]; exact F2.out.list.cellk hlt⟩; clear hout hM0))
          clear HT1 F0 HC0 F1 HC1 OT1 HK1
          have HT2 := Hd.mk (tail_any k 2 w2.drew hkk (by omega))
          have F3 := Hd.mk (F2.out.below (Below.refl _ _).drew)
          have HC3 : Hd (w2.drew.cell? ⟨gl, k, none⟩ = some (.slice A1 (N k) c1)) := HC2
          have M2' : Hd (Mem wr w2 B k vs N v1 1) := M2
          clear M2 F2 HC2
          go_wp2_with fail
          go_region_held3 (fun w' => w'.cell? ⟨gl, k, none⟩ = some (Value.slice A1 (N k) c1))
            (first | exact HC3.out | exact HC4.out | exact HC5.out)
            (first
              | (go_at_call 56; refine HT2.out.mono ?_; rintro e w3 ⟨Ab2, cb2, rfl, hb, hbl⟩; have F4 := Hd.mk (F3.out.below hbl); have HC4 : Hd (w3.cell? ⟨gl, k, none⟩ = some (.slice A1 (N k) c1)) := ⟨by rw [← HF.out]; exact F4.out.list.cellk hlt⟩; have OT2 := Hd.mk hb; have BT2 : Hd (Below w2.heap.size w2 w3) := ⟨bel_call0 (Below.refl _ _).drew hbl⟩; clear hb hbl)
              | (refine step_appK (by rfl) _ _ (by rfl) B (.slice A1 (N k) c1) _ (txt k (N k) 0) (List.replicate 2 (mk2 k)) (by rfl) (by rfl) (by rw [← HF.out]; exact F4.out.own k hlt) OT2.out.rd (by simp) (by rw [txt_len, List.length_replicate]; omega) (Nat.le_trans HBs.out F4.out.touch.size) ?_; intro v2 w4 hout; have hM0 : Mem wr w3 B k vs N (.slice A1 (N k) c1) 0 := (by rw [← HF.out]; exact F4.out.mem HBlk.out); have F5 := Hd.mk (F4.out.app HBlk.out hM0 hout); have M5 := Hd.mk (hM0.new F4.out.size hout); have HK2 : Hd (∀ u a, Mem wr w3 B k vs N u a → Mem wr w4 B k vs N u a) := ⟨fun u a hu => hu.app hout⟩; have HC5 : Hd (w4.cell? ⟨gl, k, none⟩ = some (.slice A1 (N k) c1)) := ⟨by rw [← HF.out]; exact F5.out.list.cellk hlt⟩; clear hout hM0))
          have M6 : Hd (Mem wr w4 B k vs N v1 1) := ⟨HK2.out _ _ (M2'.out.below BT2.out)⟩
          have M5' : Hd (Mem wr w4 B k vs N v2 2) := M5
          have hcell := HC5.out
          clear HT2 F3 HC3 F4 HC4 OT2 HK2 BT2 BT1 M2' HC5 M5
          go_wp2_with fail
          have M0 : Hd (Mem wr w4 B k vs N (.slice A1 (N k) c1) 0) := ⟨by rw [← HF.out]; exact F5.out.mem HBlk.out⟩
          obtain ⟨wo, hwo⟩ : ∃ wo, wo = wr := ⟨_, rfl⟩
          subst hwo
          clear hcell
          go_loopw [9, 10] (fun g ix wx => ∃ m : Nat, ix = .int .i64 m ∧ m ≤ 70 ∧ Hd (Mem wo wx B k vs N g m) ∧ Hd (Mem wo wx B k vs N v1 1) ∧ Hd (Mem wo wx B k vs N v2 2) ∧ Hd (Fil w wo wx B Bl k (.slice (some ⟨gl, 0, none⟩) vs.length cl) u5 vs us N)) (fun _ ix _ => 70 - (intOf ix).toNat)
          case atStart => exact ⟨0, rfl, by omega, M0, M6, M5', F5⟩
          case round =>
            clear M0 M6 M5' F5
            obtain ⟨m, rfl, hm, HM, M1, M2, HFi⟩ := hrel
            by_cases hm70 : m < 70
            · go_wp2_with fail
              refine (tail_any k 1 wr hkk (by omega)).mono ?_
              rintro e w5 ⟨A5, c5, rfl, ho, hb⟩
              have OT := Hd.mk ho.rd
              have HM5 := Hd.mk (HM.out.below hb)
              have M15 := Hd.mk (M1.out.below hb)
              have M25 := Hd.mk (M2.out.below hb)
              have F5 := Hd.mk (HFi.out.below hb)
              have hlen : Hd ((txt k (N k) m).length + (List.replicate 1 (mk2 k)).length ≤ 140737555464192) := ⟨by rw [txt_len, List.length_replicate]; omega⟩
              clear ho hb HM M1 M2 HFi
              go_wp2_with (at_builtin; refine wpList_appK rfl (.tmp 64) (.tmp 66) rfl B _ _ (txt k (N k) m) (List.replicate 1 (mk2 k)) rfl rfl HM5.out.1 OT.out (by simp) hlen.out (Nat.le_trans HBs.out F5.out.touch.size) ?_; intro u6 w6 hout; have F6 := Hd.mk (F5.out.app HBlk.out HM5.out hout); have HM6 := Hd.mk (HM5.out.new F5.out.size hout); have M16 := Hd.mk (M15.out.app hout); have M26 := Hd.mk (M25.out.app hout); clear hout)
              go_roundw
              case rel => exact ⟨m + 1, by go_num, by omega, HM6, M16, M26, F6⟩
              case measure => simp [intOf]; omega
            · obtain rfl : m = 70 := by omega
              obtain ⟨G1, d1, rfl⟩ := M1.out.1.rd.form
              obtain ⟨G2, d2, rfl⟩ := M2.out.1.rd.form
              obtain ⟨G3, d3, rfl⟩ := HM.out.1.rd.form
              simp only [txt_len] at M1 M2 HM ⊢
              have H1 : Hd (∀ u ∈ [Value.slice G1 (N k + 1) d1, .slice G2 (N k + 2) d2, .slice G3 (N k + 70) d3], u.oneCell' = true) := ⟨by
                intro u hu
                simp only [List.mem_cons, List.mem_nil_iff, or_false] at hu
                rcases hu with rfl | rfl | rfl <;> rfl⟩
              have hul : Hd (us.length + [Value.slice G1 (N k + 1) d1, .slice G2 (N k + 2) d2, .slice G3 (N k + 70) d3].length ≤ 1099511627776) := ⟨by rw [HUl.out]; simp; omega⟩
              go_wp2_with (at_builtin; refine wpList_appVs rfl (.tmp 68) (.tmp 72) rfl w.heap.size _ _ us [.slice G1 (N k + 1) d1, .slice G2 (N k + 2) d2, .slice G3 (N k + 70) d3] rfl rfl (HFi.out.more.alloc _) (VsAt.new (by simp) rfl H1.out) hul.out (hb_alloc0 HFi.out.touch.size _) ?_; intro u7 w7 hown hgr hli; have F7 := Hd.mk (HFi.out.next HBlk.out HLv.out M1.out M2.out HM.out hown hgr); have N7 := Hd.mk (Fil.newBlk HBlk.out M1.out M2.out HM.out); clear hown hgr hli)
              go_roundw
              case rel => exact ⟨k + 1, us ++ [.slice G1 (N k + 1) d1, .slice G2 (N k + 2) d2, .slice G3 (N k + 70) d3], by go_num, by omega, F7, ⟨by simp [HUl.out]; omega⟩, N7⟩
              case measure => simp [intOf]; omega
        · obtain rfl : k = vs.length := by omega
          obtain ⟨A9, c9, rfl, _⟩ := HFil.out.more.form
          go_wp2
          go_ret
          exact ⟨A9, c9, us, rfl, HUl.out, HFil.out.more, HFil.out.list, HFil.out.own, HFil.out.grp, HNew.out, HFil.out.touch⟩

end Go.Proofs.YtbobigaifkffoaaDoor
