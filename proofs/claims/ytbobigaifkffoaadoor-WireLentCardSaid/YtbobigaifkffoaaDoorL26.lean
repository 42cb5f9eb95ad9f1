/-
  ReadFrames, both, from any place.
-/
import Derived.Test.YtbobigaifkffoaaDoorL25
namespace Go.Proofs.YtbobigaifkffoaaDoor
open Go.RowKit
set_option linter.unusedVariables false
set_option linter.unusedSimpArgs false

/-- What ReadFrames answers at a place. -/
def RunsI (L : List UInt8) (pos : Int) (Bs : List (List UInt8)) (q : Nat) : Prop :=
  ((pos < 0 ∨ (L.length : Int) < pos) ∧ Bs = [] ∧ q = 0) ∨ ∃ a : Nat, pos = a ∧ a ≤ L.length ∧ Runs L a Bs q
theorem RunsI.exists_ (L : List UInt8) (pos : Int) : ∃ Bs q, RunsI L pos Bs q := by
  by_cases h : pos < 0 ∨ (L.length : Int) < pos
  · exact ⟨[], 0, .inl ⟨h, rfl, rfl⟩⟩
  · obtain ⟨Bs, q, hr⟩ := Runs.exists_ L _ pos.toNat (Nat.le_refl _)
    exact ⟨Bs, q, .inr ⟨pos.toNat, by omega, by omega, hr⟩⟩

theorem RdL.nil (w : World) : RdL w (.slice none 0 0) [] := ⟨none, 0, rfl, Nat.le_refl _, fun _ => rfl, by simp, fun h => by simp at h⟩

set_option maxRecDepth 100000 in
set_option maxHeartbeats 1000000 in
/-- 'wire.ReadFrames'. -/
theorem readFrames_e (v : Value) (L : List UInt8) (pos : Int) (q : Nat) (Bs : List (List UInt8)) (w : World) (h : Rd w v L) (hT : TabOk w) (hsm : L.length ≤ 1099511627776) (hr : RunsI L pos Bs q) :
    Calls Tryd.prog 29 #[v, .int .i64 pos] w fun e w' => ∃ A c, e = .returned (.tuple #[.slice A Bs.length c, .int .i64 (q : Int)]) ∧ RdL w' (.slice A Bs.length c) Bs ∧ Below w.heap.size w w' := by
  rcases hr with ⟨ho, rfl, rfl⟩ | ⟨a, rfl, ha, hr⟩
  · obtain ⟨A, cap, rfl⟩ := h.form
    by_cases h1 : pos < 0
    · have d1 : decide (pos < 0) = true := dec_t h1
      clear h hT ho
      go_enter Tryd.func29, Tryd.ntmps29
      go_wp2
      go_ret2
      exact ⟨none, 0, rfl, RdL.nil _, Below.refl _ _⟩
    · have d1 : decide (pos < 0) = false := dec_f h1
      have d2 : decide ((L.length : Int) < pos) = true := dec_t (by omega)
      clear h hT ho
      go_enter Tryd.func29, Tryd.ntmps29
      go_wp2
      go_ret2
      exact ⟨none, 0, rfl, RdL.nil _, Below.refl _ _⟩
  · have hb := hr.bound
    have hbl : Bs.length ≤ 1099511627776 := by omega
    refine (readFrames_any v L a q Bs w h hT ha (by omega) hr).mono ?_
    rintro e w' ⟨A, c, vs, rfl, hl, hv, he, _, hb⟩
    have hR := hv.rdl hl (by omega) (fun i hi => (he i hi).rd)
    rw [hl] at hR ⊢
    exact ⟨A, c, rfl, hR, hb⟩

set_option maxRecDepth 100000 in
set_option maxHeartbeats 1000000 in
/-- 'annalsref1.ReadFrames'. -/
theorem dReadFrames_e (v : Value) (L : List UInt8) (pos : Int) (q : Nat) (Bs : List (List UInt8)) (w : World) (h : Rd w v L) (hsm : L.length ≤ 1099511627776) (hr : RunsI L pos Bs q) :
    Calls Tryd.prog 31 #[v, .int .i64 pos] w fun e w' => ∃ A c, e = .returned (.tuple #[.slice A Bs.length c, .int .i64 (q : Int)]) ∧ RdL w' (.slice A Bs.length c) Bs ∧ Below w.heap.size w w' := by
  rcases hr with ⟨ho, rfl, rfl⟩ | ⟨a, rfl, ha, hr⟩
  · obtain ⟨A, cap, rfl⟩ := h.form
    by_cases h1 : pos < 0
    · have d1 : decide (pos < 0) = true := dec_t h1
      clear h ho
      go_enter Tryd.func31, Tryd.ntmps31
      go_wp2
      go_ret2
      exact ⟨none, 0, rfl, RdL.nil _, Below.refl _ _⟩
    · have d1 : decide (pos < 0) = false := dec_f h1
      have d2 : decide ((L.length : Int) < pos) = true := dec_t (by omega)
      clear h ho
      go_enter Tryd.func31, Tryd.ntmps31
      go_wp2
      go_ret2
      exact ⟨none, 0, rfl, RdL.nil _, Below.refl _ _⟩
  · have hb := hr.bound
    have hbl : Bs.length ≤ 1099511627776 := by omega
    refine (dReadFrames_any v L a q Bs w h ha (by omega) hr).mono ?_
    rintro e w' ⟨A, c, vs, rfl, hl, hv, he, _, hb⟩
    have hR := hv.rdl hl (by omega) (fun i hi => (he i hi).rd)
    rw [hl] at hR ⊢
    exact ⟨A, c, rfl, hR, hb⟩

end Go.Proofs.YtbobigaifkffoaaDoor
