import Derived.Test.YtbobigaifkffoaaDoorV
namespace Go.Proofs.YtbobigaifkffoaaDoor
open Go.RowKit
set_option linter.unusedVariables false
set_option linter.unusedSimpArgs false

set_option maxRecDepth 100000 in
/-- 'wire.piece': a copy of a part. -/
theorem piece_any (v : Value) (L : List UInt8) (lo hi : Nat) (w : World) (h : Rd w v L) (h1 : lo ≤ hi) (h2 : hi ≤ L.length) :
    Calls Tryd.prog 54 #[v, .int .i64 lo, .int .i64 hi] w fun e w' => ∃ r, e = .returned r ∧ Own w.heap.size w' r (cutL L lo hi) ∧ Below w.heap.size w w' := by
  obtain ⟨A, cap, rfl, hc, hn, hl, hr⟩ := id h
  have HR := Hd.mk h
  clear hr hn h
  obtain ⟨i0, hi0, _, hz1, _⟩ := info_parts info5
  have hcut := cut_mid (P := Tryd.prog) 22 5 .i64 .i64 Tryd.underlying22 hi0 1 hz1 A L.length cap lo hi (by omega) (by omega) (by omega) hc
  rw [show ((lo : Int)).toNat = lo by omega, show ((hi : Int)).toNat = hi by omega] at hcut
  clear hi0 hz1
  obtain ⟨ad, hAD⟩ : ∃ ad, (if cap = lo then A else A.map (·.add (lo * 1))) = ad := ⟨_, rfl⟩
  have hrc := HR.out.cut lo hi h1 h2
  rw [hAD] at hcut hrc
  have HC := Hd.mk hrc
  have hlen : (cutL L lo hi).length = (List.replicate (hi - lo) (0 : UInt8)).length := by rw [cutL_len]; simp; omega
  have HL := Hd.mk hlen
  clear hrc hAD hlen HR
  go_enter Tryd.func54, Tryd.ntmps54
  go_wp2_with (first
    | (at_make; refine wpList_mkn rfl _ _ rfl w.heap.size _ _ _ _ (hi - lo) rfl rfl (by omega) (by omega) (by omega) (Nat.le_refl _) ?_; intro w1 hown hgr; have HO1 := Hd.mk hown; have HB1 : Hd (Below w.heap.size w w1) := ⟨bel_grown (Below.refl _ _) hgr⟩; clear hown hgr)
    | (refine wpList_cpy (o := ⟨some 17, _, _, _, _, _⟩) rfl _ _ rfl w.heap.size w HB1.out w.heap.size (hi - lo) (hi - lo) _ _ _ rfl rfl HO1.out (HC.out.below HB1.out) HL.out ?_; intro w2 hown hb _; have HO2 := Hd.mk hown; have HB2 := Hd.mk hb; clear hown hb))
  go_ret
  exact ⟨_, rfl, HO2.out, HB2.out⟩

end Go.Proofs.YtbobigaifkffoaaDoor
