import Derived.Test.YtbobigaifkffoaaDoorL1
import Derived.Test.YtbobigaifkffoaaDoorL7
import Derived.Test.YtbobigaifkffoaaDoorL9
import Derived.Test.YtbobigaifkffoaaDoorL10
import Derived.Test.YtbobigaifkffoaaDoorP3
namespace Go.Proofs.YtbobigaifkffoaaDoor
open Go.RowKit
set_option linter.unusedVariables false
set_option linter.unusedSimpArgs false

/-! The contracts in the form in which a caller meets them: slices written out, lists by names. -/
theorem frame_e (v : Value) (Ls : List (List UInt8)) (M F : List UInt8) (er : Nat) (w : World) (h : RdL w v Ls) (hT : TabOk w) (hM : Ls.flatten = M) (he : frmErr M = er) (hF : frmOut M = F) :
    Calls Tryd.prog 23 #[v] w fun e w' => ∃ A c, e = .returned (.tuple #[.slice A F.length c, .int .i64 (er : Int)]) ∧ Own w.heap.size w' (.slice A F.length c) F ∧ Below w.heap.size w w' := by
  refine (frame_any v Ls M w h hT hM).mono ?_
  rintro e w' ⟨r, rfl, ho, hb⟩
  rw [hF] at ho
  obtain ⟨A, c, rfl⟩ := ho.rd.form
  exact ⟨A, c, by rw [he], ho, hb⟩
theorem readFrame_e (v : Value) (L B : List UInt8) (pos : Int) (p er : Nat) (w : World) (h : Rd w v L) (hT : TabOk w) (hp : -9223372036854775808 ≤ pos) (hX : rdF L pos = (B, p, er)) :
    Calls Tryd.prog 25 #[v, .int .i64 pos] w fun e w' => ∃ A c, e = .returned (.tuple #[.slice A B.length c, .int .i64 (p : Int), .int .i64 (er : Int)]) ∧ Own w.heap.size w' (.slice A B.length c) B ∧ Below w.heap.size w w' := by
  refine (readFrame_any v L pos w h hT hp).mono ?_
  rintro e w' ⟨r, rfl, ho, hb⟩
  rw [hX] at ho
  obtain ⟨A, c, rfl⟩ := ho.rd.form
  exact ⟨A, c, by rw [hX], ho, hb⟩
theorem part_e (v : Value) (L X : List UInt8) (lo hi : Nat) (w : World) (h : Rd w v L) (hlo : lo ≤ 9223372036854775807) (hn : hi ≤ 9223372036854775807) (hX : (L.take hi).drop lo = X) :
    Calls Tryd.prog 19 #[v, .int .i64 lo, .int .i64 hi] w fun e w' => ∃ A c, e = .returned (.slice A X.length c) ∧ Own w.heap.size w' (.slice A X.length c) X ∧ Below w.heap.size w w' := by
  refine (part_any v L lo hi w h (by omega) (by omega)).mono ?_
  rintro e w' ⟨v', rfl, ho, hb⟩
  rw [show cutL L ((lo : Int)).toNat ((hi : Int)).toNat = X from hX] at ho
  obtain ⟨A, c, rfl⟩ := ho.rd.form
  exact ⟨A, c, rfl, ho, hb⟩
theorem part0_e (v : Value) (L X : List UInt8) (hi : Nat) (w : World) (h : Rd w v L) (hn : hi ≤ 9223372036854775807) (hX : L.take hi = X) :
    Calls Tryd.prog 19 #[v, .int .i64 0, .int .i64 hi] w fun e w' => ∃ A c, e = .returned (.slice A X.length c) ∧ Own w.heap.size w' (.slice A X.length c) X ∧ Below w.heap.size w w' :=
  part_e v L X 0 hi w h (by omega) hn hX
theorem bel_trans {w w1 w2 : World} (h : Below w.heap.size w w1) (h2 : Below w1.heap.size w1 w2) : Below w.heap.size w w2 := bel_call0 h h2
theorem bel_alloc {w wr : World} (h : Below w.heap.size w wr) (o : Obj) : Below w.heap.size w (wr.alloc o) := h.alloc h.size o

end Go.Proofs.YtbobigaifkffoaaDoor
