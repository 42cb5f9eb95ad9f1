/-
  PLAIN: frames one behind the other.
-/
import Derived.Test.YtbobigaifkffoaaDoorP3
namespace Go.Proofs.YtbobigaifkffoaaDoor
set_option linter.unusedVariables false
set_option linter.unusedSimpArgs false

/-- From the place a on the bodies Bs are read, up to the place q. -/
inductive Runs (L : List UInt8) : Nat → List (List UInt8) → Nat → Prop where
  | stop (a : Nat) (h : (rdF L a).2.2 ≠ 0) : Runs L a [] a
  | more (a p : Nat) (b : List UInt8) (bs : List (List UInt8)) (q : Nat) (h : rdF L a = (b, p, 0)) (t : Runs L p bs q) : Runs L a (b :: bs) q

theorem rdF_spec {L : List UInt8} {a p : Nat} {b : List UInt8} (h : rdF L a = (b, p, 0)) : a + 7 ≤ p ∧ p ≤ L.length ∧ b.length + a + 6 ≤ p ∧ 0 < b.length := by
  obtain ⟨x, y, er, hE⟩ : ∃ x y er, bnd L a = (x, y, er) := ⟨_, _, _, rfl⟩
  by_cases h0 : er = 0
  · subst h0
    rw [rdF_ok hE] at h
    obtain ⟨a', k, n, ha, rfl, rfl, hk, hk10, hn1, hn2, hql, hru, h165⟩ := bnd_spec hE
    obtain rfl : a = a' := by omega
    split at h
    · simp only [Prod.mk.injEq] at h
      obtain ⟨rfl, rfl, _⟩ := h
      rw [List.length_drop, List.length_take]
      omega
    · simp at h
  · obtain ⟨m, rfl⟩ : ∃ m, er = m + 1 := ⟨er - 1, by omega⟩
    rw [rdF_err hE] at h
    simp at h

theorem Runs.exists_ (L : List UInt8) : ∀ (n a : Nat), L.length - a ≤ n → ∃ bs q, Runs L a bs q := by
  intro n
  induction n with
  | zero =>
    intro a ha
    refine ⟨[], a, .stop a ?_⟩
    intro h0
    obtain ⟨⟨b, p, er⟩, hE⟩ : ∃ x, rdF L a = x := ⟨_, rfl⟩
    rw [hE] at h0
    have h0 : er = 0 := h0
    subst h0
    have := rdF_spec hE
    omega
  | succ n ih =>
    intro a ha
    obtain ⟨⟨b, p, er⟩, hE⟩ : ∃ x, rdF L a = x := ⟨_, rfl⟩
    by_cases h0 : er = 0
    · subst h0
      have := rdF_spec hE
      obtain ⟨bs, q, ht⟩ := ih p (by omega)
      exact ⟨b :: bs, q, .more a p b bs q hE ht⟩
    · exact ⟨[], a, .stop a (by rw [hE]; exact h0)⟩
theorem Runs.unique {L : List UInt8} {a : Nat} {bs : List (List UInt8)} {q : Nat} (h : Runs L a bs q) : ∀ {bs' : List (List UInt8)} {q' : Nat}, Runs L a bs' q' → bs = bs' ∧ q = q' := by
  induction h with
  | stop a h =>
    intro bs' q' h'
    cases h' with
    | stop => exact ⟨rfl, rfl⟩
    | more _ p b bs q h2 t => rw [h2] at h; simp at h
  | more a p b bs q h t ih =>
    intro bs' q' h'
    cases h' with
    | stop _ h2 => rw [h] at h2; simp at h2
    | more _ p' b' bs2 _ h2 t2 =>
      rw [h] at h2
      simp only [Prod.mk.injEq, and_true] at h2
      obtain ⟨rfl, rfl⟩ := h2
      obtain ⟨rfl, rfl⟩ := ih t2
      exact ⟨rfl, rfl⟩
theorem Runs.bound {L : List UInt8} {a : Nat} {bs : List (List UInt8)} {q : Nat} (h : Runs L a bs q) : a + 7 * bs.length ≤ q ∧ (q = a ∨ q ≤ L.length) ∧ a + bs.flatten.length ≤ q := by
  induction h with
  | stop a h => simp
  | more a p b bs q h t ih =>
    have := rdF_spec h
    simp only [List.length_cons, List.flatten_cons, List.length_append]
    omega

/-- A body that may be framed. -/
def sound (M : List UInt8) : Bool := decide (M.length ≠ 0) && decide (M.length ≤ 1048576)
theorem sound_iff (M : List UInt8) : sound M = true ↔ M.length ≠ 0 ∧ M.length ≤ 1048576 := by simp [sound]
def frames (Ms : List (List UInt8)) : List UInt8 := (Ms.map frm).flatten
theorem frames_cons (M : List UInt8) (Ms : List (List UInt8)) : frames (M :: Ms) = frm M ++ frames Ms := by simp [frames]
theorem frames_snoc (Ms : List (List UInt8)) (M : List UInt8) : frames (Ms ++ [M]) = frames Ms ++ frm M := by simp [frames]
theorem frames_len (Ms : List (List UInt8)) (h : ∀ M ∈ Ms, sound M = true) : (frames Ms).length ≤ Ms.flatten.length + 15 * Ms.length := by
  induction Ms with
  | nil => simp [frames]
  | cons M Ms ih =>
    have h1 := ih (fun x hx => h x (by simp [hx]))
    have h2 := (sound_iff M).1 (h M (by simp))
    have h3 := frm_len M
    have h4 := uenc_len10 (v := M.length) (Is64.mk (by omega))
    rw [frames_cons, List.length_append]
    simp only [List.flatten_cons, List.length_append, List.length_cons]
    omega

/-- 1.5: frames one behind the other, anything ahead, a torn frame (or nothing) behind. -/
theorem runs_frames (T : List UInt8) : ∀ (Ms : List (List UInt8)) (A : List UInt8), (∀ M ∈ Ms, sound M = true) → (∀ A : List UInt8, (rdF (A ++ T) A.length).2.2 ≠ 0) →
    Runs (A ++ frames Ms ++ T) A.length Ms (A ++ frames Ms).length
  | [], A, _, hT => by
    have h := hT A
    simp only [frames, List.map_nil, List.flatten_nil, List.append_nil]
    exact .stop _ h
  | M :: Ms, A, hs, hT => by
    have h2 := (sound_iff M).1 (hs M (by simp))
    have hb := rdF_back A M (frames Ms ++ T) h2.1 h2.2
    have ih := runs_frames T Ms (A ++ frm M) (fun x hx => hs x (by simp [hx])) hT
    have e : A ++ frames (M :: Ms) ++ T = A ++ frm M ++ frames Ms ++ T := by rw [frames_cons]; simp
    have e2 : A ++ frames (M :: Ms) = A ++ frm M ++ frames Ms := by rw [frames_cons]; simp
    rw [e, e2]
    refine .more _ _ M Ms _ ?_ ih
    rw [List.append_assoc, hb, List.length_append]
theorem rdF_end (A : List UInt8) : (rdF (A ++ []) A.length).2.2 ≠ 0 := by
  intro h0
  obtain ⟨⟨b, p, er⟩, hE⟩ : ∃ x, rdF (A ++ []) A.length = x := ⟨_, rfl⟩
  rw [hE] at h0
  have h0 : er = 0 := h0
  subst h0
  have := rdF_spec hE
  simp at this
  omega

end Go.Proofs.YtbobigaifkffoaaDoor
