import Derived.Test.YtbobigaifkffoaaDoorL6
namespace Go.Proofs.YtbobigaifkffoaaDoor
open Go.RowKit
set_option linter.unusedVariables false
set_option linter.unusedSimpArgs false

def Res3i (x : Nat × Nat × Nat) (w : World) (e : Ending) (w' : World) : Prop := e = .returned (.tuple #[.int .i64 x.1, .int .i64 x.2.1, .int .i64 x.2.2]) ∧ w = w'

set_option maxRecDepth 100000 in
set_option maxHeartbeats 2000000 in
/-- 'wire.bounds'. -/
theorem bounds_any (v : Value) (L : List UInt8) (pos : Int) (w : World) (h : Rd w v L) (hp : -9223372036854775808 ≤ pos) :
    Calls Tryd.prog 53 #[v, .int .i64 pos] w (Res3i (bnd L pos) w) := by
  obtain ⟨n, p, er, hE⟩ : ∃ n p er, rdU L pos = (n, p, er) := ⟨_, _, _, rfl⟩
  have C := readUint_any v L pos w h hp
  rw [hE] at C
  have HC := Hd.mk C
  obtain ⟨A, cap, rfl, hc, hn, hl, hr⟩ := id h
  have HR := Hd.mk hr
  clear hr hn C hp
  by_cases h0 : er = 0
  · subst h0
    obtain ⟨a, k, rfl, ha, rfl, hk, hk10, hpl, hn64, hru⟩ := rdU_spec hE
    rw [bnd_ok hE]
    have HN := Hd.mk hn64
    clear hn64 hE hru h
    by_cases h1 : n = 0
    · rw [if_pos h1]
      have h1' : n ≤ 0 := by omega
      clear h1
      go_enter Tryd.func53, Tryd.ntmps53
      go_wp2_with fail
      refine HC.out.mono ?_; rintro e w' ⟨rfl, rfl⟩
      go_wp2
      go_ret3
      exact ⟨rfl, rfl⟩
    · rw [if_neg h1]
      have h1' : 1 ≤ n := by omega
      clear h1
      by_cases h2 : 1048576 < n
      · rw [if_pos h2]
        go_enter Tryd.func53, Tryd.ntmps53
        go_wp2_with fail
        refine HC.out.mono ?_; rintro e w' ⟨rfl, rfl⟩
        go_wp2
        go_ret3
        exact ⟨rfl, rfl⟩
      · rw [if_neg h2]
        by_cases h3 : L.length < a + k + n + 5
        · rw [if_pos h3]
          go_enter Tryd.func53, Tryd.ntmps53
          go_wp2_with fail
          refine HC.out.mono ?_; rintro e w' ⟨rfl, rfl⟩
          go_wp2
          go_ret3
          exact ⟨rfl, rfl⟩
        · rw [if_neg h3]
          obtain ⟨ad, c, rfl, hcell, HL⟩ := HR.out.at_ (a + k + n + 4) (by omega)
          have hcell2 : w.cell? ⟨ad.block, ad.off + (a + k + n + 3 + 1), none⟩ = some (Value.int IntKind.u8 (c.toNat : Int)) := cell_succ hcell
          have hc256 := c.toNat_lt
          by_cases h4 : c = 165
          · rw [if_pos (by rw [HL.out, h4])]
            have h4' : c.toNat ≤ 165 ∧ 165 ≤ c.toNat := by subst h4; decide
            clear h4
            go_enter Tryd.func53, Tryd.ntmps53
            go_wp2_with fail
            refine HC.out.mono ?_; rintro e w' ⟨rfl, rfl⟩
            go_wp2
            go_ret3
            exact ⟨rfl, rfl⟩
          · rw [if_neg (by rw [HL.out]; simpa using h4)]
            have h4' : c.toNat < 165 ∨ 165 < c.toNat := by
              rcases Nat.lt_trichotomy c.toNat 165 with h | h | h
              · exact .inl h
              · exact absurd (UInt8.toNat_inj.1 h) h4
              · exact .inr h
            clear h4
            rcases h4' with h4' | h4'
            all_goals
              go_enter Tryd.func53, Tryd.ntmps53
              go_wp2_with fail
              refine HC.out.mono ?_; rintro e w' ⟨rfl, rfl⟩
              go_wp2
              go_ret3
              exact ⟨rfl, rfl⟩
  · obtain ⟨m, rfl⟩ : ∃ m, er = m + 1 := ⟨er - 1, by omega⟩
    rw [bnd_err hE]
    clear hE h0
    go_enter Tryd.func53, Tryd.ntmps53
    go_wp2_with fail
    refine HC.out.mono ?_; rintro e w' ⟨rfl, rfl⟩
    go_wp2
    go_ret3
    exact ⟨rfl, rfl⟩

end Go.Proofs.YtbobigaifkffoaaDoor
