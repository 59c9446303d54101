/-
  Layer 20: both square roots (as in layer 19).
  Conditions: none.
-/
import Derived.Test.YtghbobmkkbdhpaaPlRc3
import Derived.Test.YtghbobmkkbdhpaaPlKnown20
set_option linter.unusedSimpArgs false
set_option linter.unusedVariables false
namespace Go.Pl
open Go.Eng Go.Proofs

/-! ### Roots -/
structure Root (r a : Int) : Prop where
  p : 0 ≤ r
  l : r * r ≤ a
  u : a < (r + 1) * (r + 1)
theorem Root.le {r s a b : Int} (h : Root r a) (g : Root s b) (hab : a ≤ b) : r ≤ s := by
  rcases Int.lt_or_le s r with c | c
  · have h1 := h.l
    have h2 := g.u
    have h3 : (s + 1) * (s + 1) ≤ r * r := Int.mul_le_mul (by omega) (by omega) (by have := g.p; omega) h.p
    omega
  · exact c
theorem Root.eq {r s a : Int} (h : Root r a) (g : Root s a) : r = s := by
  have := h.le g (Int.le_refl _)
  have := g.le h (Int.le_refl _)
  omega

theorem p4 (j : Nat) : (0 : Int) < 4 ^ j := by exact_mod_cast Nat.pow_pos (n := j) (show 0 < 4 by decide)
theorem p4_step (j : Nat) : (4 : Int) ^ (j + 1) = 4 * 4 ^ j := by rw [Int.pow_succ, Int.mul_comm]
theorem p4_le {i j : Nat} (h : i ≤ j) : (4 : Int) ^ i ≤ 4 ^ j := by exact_mod_cast Nat.pow_le_pow_right (by omega) h

section
variable {N : Nat}
/-- The root bit by bit: what is left, the root so far and the place. -/
theorem fsqrt_loop (a : Int) : ∀ (nn j : Nat) (m rem : Int), j ≤ 31 → 0 ≤ m → 0 ≤ rem → rem + 4 * (m * m) * 4 ^ j = a → rem < (8 * m + 4) * 4 ^ j → a < 4611686018427387904 → j + 1 < nn →
    ∃ r : Int, Rc.fsqrt.loop5 N nn rem (4 * m * 4 ^ j) (4 ^ j) = some r ∧ Root r a
  | 0, _, _, _, _, _, _, _, _, _, h => by omega
  | nn + 1, j, m, rem, hj, hm, hr, ha, hu, hb, h => by
    have hS := p4 j
    have hS2 : (4 : Int) ^ j ≤ 4611686018427387904 := p4_le hj
    generalize hSS : (4 : Int) ^ j = S at hS hS2 ha hu ⊢
    have f0 : 0 ≤ (m * m) * S := Int.mul_nonneg (Int.mul_nonneg hm hm) (by omega)
    have f1 : 0 ≤ m * S := Int.mul_nonneg hm (by omega)
    have e1 : 4 * (m * m) * S = 4 * (m * m * S) := by grind
    have e2 : (8 * m + 4) * S = 8 * (m * S) + 4 * S := by grind
    have e3 : 4 * m * S = 4 * (m * S) := by grind
    have f2 : m * S ≤ m * m * S := by
      rw [Int.mul_assoc m m S]
      rcases Int.lt_or_le m 1 with c | c
      · have : m = 0 := by omega
        subst this; omega
      · have := Int.mul_le_mul_of_nonneg_right c f1
        omega
    rw [e1] at ha
    rw [e2] at hu
    rw [e3]
    unfold Rc.fsqrt.loop5
    simp only [br_dec]
    have d1 : (4 * (m * S)).fdiv ((2 : Int) ^ min (Int.toNat (1 : Int)) IntKind.u64.bits) = 2 * (m * S) := by
      rw [show ((2 : Int) ^ min (Int.toNat (1 : Int)) IntKind.u64.bits) = 2 from rfl, fdiv_ediv (by omega)]; omega
    rw [if_pos (by omega), u64 (x := 4 * (m * S) + S) (by omega) (by omega), d1, show ((2 : Int) ^ min (Int.toNat (2 : Int)) IntKind.u64.bits) = 4 from rfl, fdiv_ediv (a := S) (by omega)]
    have go : ∀ (m' rem' : Int), (m' = 2 * m + 1 ∧ rem' = rem - (4 * (m * S) + S) ∨ m' = 2 * m ∧ rem' = rem ∧ rem < 4 * (m * S) + S) → 0 ≤ rem' →
        ∃ r : Int, Rc.fsqrt.loop5 N nn rem' (m' * S) (S / 4) = some r ∧ Root r a := fun m' rem' hc hr' => by
      have hm' : 0 ≤ m' := by omega
      have g1 : rem' + m' * m' * S = a := by
        rcases hc with ⟨rfl, rfl⟩ | ⟨rfl, rfl, _⟩
        · rw [← ha]; grind
        · rw [← ha]; grind
      have g2 : rem' < (2 * m' + 1) * S := by
        rcases hc with ⟨rfl, rfl⟩ | ⟨rfl, rfl, h3⟩
        · have : (2 * (2 * m + 1) + 1) * S = 4 * (m * S) + 3 * S := by grind
          omega
        · have : (2 * (2 * m) + 1) * S = 4 * (m * S) + S := by grind
          omega
      rcases j with _ | j
      · have : S = 1 := by rw [← hSS]; rfl
        subst this
        rcases nn with _ | nn
        · omega
        refine ⟨m' * 1, ?_, ?_⟩
        · unfold Rc.fsqrt.loop5
          simp only [br_dec]
          rw [if_neg (by decide)]
        · rw [Int.mul_one]
          exact ⟨hm', by omega, by
            have : (m' + 1) * (m' + 1) = m' * m' + (2 * m' + 1) := by grind
            omega⟩
      · rw [p4_step] at hSS
        have hT : S / 4 = 4 ^ j := by omega
        rw [hT]
        have g3 : m' * S = 4 * m' * 4 ^ j := by rw [← hSS]; grind
        rw [g3]
        refine fsqrt_loop a nn j m' rem' (by omega) hm' hr' ?_ ?_ hb (by omega)
        · rw [← g1, ← hSS]; grind
        · rw [← hSS] at g2
          have : (2 * m' + 1) * (4 * 4 ^ j) = (8 * m' + 4) * 4 ^ j := by grind
          omega
    by_cases c : rem ≥ 4 * (m * S) + S
    · rw [if_pos c, u64 (x := rem - (4 * (m * S) + S)) (by omega) (by omega), u64 (x := 2 * (m * S) + S) (by omega) (by omega)]
      have := go (2 * m + 1) (rem - (4 * (m * S) + S)) (Or.inl ⟨rfl, rfl⟩) (by omega)
      rw [show (2 * m + 1) * S = 2 * (m * S) + S by grind] at this
      exact this
    · rw [if_neg c]
      have := go (2 * m) rem (Or.inr ⟨rfl, rfl, by omega⟩) hr
      rw [show 2 * m * S = 2 * (m * S) by grind] at this
      exact this

theorem fsqrt_F {a : Int} (h0 : 0 ≤ a) (h1 : a < 4611686018427387904) (hN : 100 ≤ N) : ∃ r : Int, Rc.fsqrt.F N a = some r ∧ Root r a ∧ r < 4611686018427387904 := by
  obtain ⟨r, e, g⟩ := fsqrt_loop (N := N) a N 31 0 a (by omega) (by omega) h0 (by omega) (by
    have : (4 : Int) ^ 31 = 4611686018427387904 := by decide
    omega) (by omega) (by omega)
  have hb : r < 4611686018427387904 := by
    rcases Int.lt_or_le r 4611686018427387904 with c | c
    · exact c
    · have h2 := g.l
      have h3 : 4611686018427387904 * 1 ≤ r * r := Int.mul_le_mul c (by omega) (by omega) (by omega)
      omega
  have hp := g.p
  refine ⟨r, ?_, g, hb⟩
  unfold Rc.fsqrt.F
  simp only [br_dec]
  rw [if_neg (by omega), u64 h0 (by omega)]
  rw [show (4 : Int) * 0 * 4 ^ 31 = 0 by decide, show (4 : Int) ^ 31 = 4611686018427387904 by decide] at e
  rw [e, obind_of, i64 (by omega) (by omega)]

theorem rsqrt_loop {a : Int} (h0 : 0 ≤ a) (h1 : a < 9223372036854775808) : ∀ (nn j : Nat) (s : Int), j ≤ 32 → 0 ≤ s → s ≤ 3037000499 → s * s ≤ a → a < (s + 2 ^ j) * (s + 2 ^ j) → j < nn →
    ∃ r : Int, Rc.rsqrt.loop3 N nn a s ((j : Int) - 1) = some r ∧ Root r a
  | 0, _, _, _, _, _, _, _, h => by omega
  | nn + 1, j, s, hj, s0, s1, hl, hu, h => by
    unfold Rc.rsqrt.loop3
    simp only [br_dec, chkI_same]
    rcases j with _ | j
    · rw [if_neg (by omega)]
      exact ⟨s, rfl, s0, hl, hu⟩
    · have hP : (2 : Int) ^ j ≤ 2147483648 := by
        have := p2le (show j ≤ 31 by omega)
        exact this
      have hP0 := p2pos j
      have ih := fun s' a1 a2 a3 a4 => rsqrt_loop h0 h1 nn j s' (by omega) a1 a2 a3 a4 (by omega)
      rw [Int.pow_succ] at hu
      rw [if_pos (by omega), show ((j + 1 : Nat) : Int) - 1 = (j : Int) by omega, u64 (x := (j : Int)) (by omega) (by omega), Int.toNat_natCast, show min j IntKind.i64.bits = j by rw [bits_i64]; omega, chk_pos (by omega), i64 (x := (j : Int) - 1) (by omega) (by omega)]
      generalize (2 : Int) ^ j = P at hP hP0 hu ih ⊢
      rw [i64 (x := 1 * P) (by omega) (by omega), i64 (x := s + 1 * P) (by omega) (by omega), show s + 1 * P = s + P by omega]
      by_cases c : s + P ≤ 3037000499
      · have hq : (s + P) * (s + P) ≤ 3037000499 * 3037000499 := Int.mul_le_mul c c (by omega) (by omega)
        have hq0 : 0 ≤ (s + P) * (s + P) := Int.mul_nonneg (by omega) (by omega)
        rw [if_pos c, i64 (x := (s + P) * (s + P)) (by omega) (by omega)]
        by_cases c2 : (s + P) * (s + P) ≤ a
        · rw [if_pos c2]
          exact ih (s + P) (by omega) c c2 (by rw [show s + P + P = s + P * 2 by omega]; exact hu)
        · rw [if_neg c2]
          exact ih s s0 s1 hl (by omega)
      · rw [if_neg c]
        have hq : 3037000500 * 3037000500 ≤ (s + P) * (s + P) := Int.mul_le_mul (by omega) (by omega) (by omega) (by omega)
        exact ih s s0 s1 hl (by omega)

theorem rsqrt_F {a : Int} (h0 : 0 ≤ a) (h1 : a < 9223372036854775808) (hN : 100 ≤ N) : ∃ r : Int, Rc.rsqrt.F N a = some r ∧ Root r a := by
  obtain ⟨r, e, g⟩ := rsqrt_loop (N := N) h0 h1 N 32 0 (by omega) (by omega) (by omega) (by omega) (by
    have : (2 : Int) ^ 32 = 4294967296 := by decide
    rw [this]; omega) (by omega)
  refine ⟨r, ?_, g⟩
  unfold Rc.rsqrt.F
  rw [show (((32 : Nat) : Int) - 1) = 31 from rfl] at e
  rw [e, obind_of]
end
end Go.Pl
