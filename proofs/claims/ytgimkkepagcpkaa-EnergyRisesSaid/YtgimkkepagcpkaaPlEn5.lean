/-
  Layer 19: the division of 128 bits by a small number; what is measured, by both.
  Conditions: none.
-/
import Derived.Test.YtgimkkepagcpkaaPlEn4
set_option linter.unusedSimpArgs false
set_option linter.unusedVariables false
namespace Go.Pl
open Go.Eng Go.Proofs

theorem u64_sub {a b : Int} : IntKind.u64.wrap (IntKind.u64.wrap a - IntKind.u64.wrap b) = IntKind.u64.wrap (a - b) := by rw [u64_mod, u64_mod, u64_mod, u64_mod]; omega
theorem u64_add {a b : Int} : IntKind.u64.wrap (IntKind.u64.wrap a + b) = IntKind.u64.wrap (a + b) := by rw [u64_mod, u64_mod, u64_mod]; omega

section
variable {N : Nat}
theorem lz64_F {y : Int} (h0 : 1 ≤ y) (h1 : y < 1024) : Rc.lz64.F N y = some (64 - bl y) ∧ 1 ≤ bl y ∧ bl y ≤ 10 ∧ 2 ^ (bl y - 1).toNat ≤ y ∧ y < 2 ^ (bl y).toNat := by
  obtain ⟨k, e, g0, g1⟩ := bl_spec h0
  have hk : k < 10 := by
    rcases Nat.lt_or_ge k 10 with c | c
    · exact c
    · have := p2le c
      have h2 : (2 : Int) ^ 10 = 1024 := by decide
      omega
  refine ⟨?_, by omega, by omega, by rw [e, show ((k : Int) + 1 - 1).toNat = k by omega]; exact g0, by rw [e, show ((k : Int) + 1).toNat = k + 1 by omega]; exact g1⟩
  unfold Rc.lz64.F
  rw [len64_F (by omega) (by omega), obind_of, i64 (by omega) (by omega)]

theorem mask32 {x : Int} (h0 : 0 ≤ x) (h1 : x < 18446744073709551616) : IntKind.u64.wrap ↑(BitVec.ofInt IntKind.u64.bits x &&& BitVec.ofInt IntKind.u64.bits 4294967295).toNat = x % 4294967296 := by
  rw [bits_u64, and_mask (w := 64) (k := 32) (m := 4294967295) h0 (by exact h1) (by decide) (by omega), show (2 : Int) ^ 32 = 4294967296 from by decide, u64 (by omega) (by omega)]

/-- Division by a small number whose place is told. -/
theorem div64_core {hi lo y : Int} {t : Nat} (h0 : 1 ≤ y) (hy : y < 1024) (a0 : 1 ≤ hi) (a1 : hi < y) (l0 : 0 ≤ lo) (l1 : lo < 18446744073709551616) (ht : 22 ≤ t) (ht2 : t ≤ 31) (y0 : 2147483648 ≤ y * 2 ^ t) (y1 : y * 2 ^ t < 4294967296) (hz : bl y = 32 - (t : Int)) (hN : 8 ≤ N) :
    ∃ r : Int, Rc.div64.F N hi lo y = some ((hi * 18446744073709551616 + lo) / y, r) := by
  have hP : (2 : Int) ^ (t + 32) = 2 ^ t * 4294967296 := by rw [Int.pow_add]; rfl
  have hp0 : (0 : Int) < 2 ^ t := p2pos t
  have hp1 : (2 : Int) ^ t ≤ 2147483648 := p2le ht2
  have hs : (2 : Int) ^ (32 - t) * 2 ^ t = 4294967296 := by rw [← Int.pow_add, show 32 - t + t = 32 by omega]; rfl
  have hs0 : (0 : Int) < 2 ^ (32 - t) := p2pos _
  obtain ⟨hlz, _⟩ := lz64_F (N := N) h0 hy
  unfold Rc.div64.F
  simp only [br_beq, br_dec]
  rw [if_neg (by omega), if_neg (by omega), if_neg (by omega), hlz, obind_of, hz, show (64 : Int) - (32 - (t : Int)) = ((t + 32 : Nat) : Int) by omega, u64 (x := ((t + 32 : Nat) : Int)) (by omega) (by omega), Int.toNat_natCast, u64 (x := 64 - ((t + 32 : Nat) : Int)) (by omega) (by omega), show ((64 : Int) - ((t + 32 : Nat) : Int)).toNat = 32 - t by omega]
  rw [show min (t + 32) IntKind.u64.bits = t + 32 by rw [bits_u64]; omega, show min (32 - t) IntKind.u64.bits = 32 - t by rw [bits_u64]; omega, show min (Int.toNat (32 : Int)) IntKind.u64.bits = 32 from rfl, show (2 : Int) ^ 32 = 4294967296 from by decide, hP]
  generalize hp : (2 : Int) ^ t = p at *
  generalize hq : (2 : Int) ^ (32 - t) = s at *
  have eY : y * (p * 4294967296) = (y * p) * 4294967296 := by grind
  have eH : hi * (p * 4294967296) = (hi * p) * 4294967296 := by grind
  have eL : lo * (p * 4294967296) = (lo * p) * 4294967296 := by grind
  have hhp : 0 ≤ hi * p := Int.mul_nonneg (by omega) (by omega)
  have hhp1 : hi * p + p ≤ y * p := by
    have := Int.mul_le_mul_of_nonneg_right (show hi + 1 ≤ y by omega) (show 0 ≤ p by omega)
    rw [Int.add_mul] at this
    omega
  have hlp : 0 ≤ lo * p := Int.mul_nonneg l0 (by omega)
  -- the low word's place
  have hls : lo.fdiv s = lo * p / 4294967296 := by
    rw [fdiv_ediv (by omega), ← hs, Int.mul_ediv_mul_of_pos_left _ _ hp0]
  have hl1 : lo * p / 4294967296 < p * 4294967296 := by
    have := Int.mul_lt_mul_of_pos_right l1 hp0
    omega
  rw [eY, eH, eL, u64 (x := y * p * 4294967296) (by omega) (by omega), u64 (x := hi * p * 4294967296) (by omega) (by omega), hls]
  have hor : ((BitVec.ofInt IntKind.u64.bits (hi * p * 4294967296) ||| BitVec.ofInt IntKind.u64.bits (lo * p / 4294967296)).toNat : Int) = hi * p * 4294967296 + lo * p / 4294967296 := by
    have h1 := or_add (w := 64) (k := t + 32) (a := hi) (b := lo * p / 4294967296) (by omega) (by rw [hP, eH]; exact Int.lt_of_lt_of_le (show hi * p * 4294967296 < 18446744073709551616 by omega) (by decide)) (by omega) (by rw [hP]; exact hl1) (by omega)
    rw [hP, eH] at h1
    exact h1
  rw [hor, mask32 (x := y * p * 4294967296) (by omega) (by omega), show y * p * 4294967296 % 4294967296 = 0 by omega, fdiv_ediv (a := y * p * 4294967296) (by omega), show y * p * 4294967296 / 4294967296 = y * p by omega]
  rw [u64_mod (lo * p * 4294967296), fdiv_ediv (a := lo * p * 4294967296 % 18446744073709551616) (by omega), show lo * p * 4294967296 % 18446744073709551616 / 4294967296 = lo * p % 4294967296 by omega]
  rw [u64 (x := hi * p * 4294967296 + lo * p / 4294967296) (by omega) (by omega)]
  have hY : (y * p) = y * p := rfl
  generalize hYp : y * p = Y at *
  generalize hU : hi * p * 4294967296 + lo * p / 4294967296 = U at *
  have hU0 : 0 ≤ U := by omega
  have hU1 : U < Y * 4294967296 := by omega
  have hq0 := Int.ediv_nonneg hU0 (show 0 ≤ Y by omega)
  have hq1 : U / Y < 4294967296 := Int.ediv_lt_of_lt_mul (by omega) (by rw [Int.mul_comm]; omega)
  have hqr : U / Y * Y + U % Y = U := by rw [Int.mul_comm]; exact Int.mul_ediv_add_emod U Y
  have hr0 := Int.emod_nonneg U (show Y ≠ 0 by omega)
  have hr1 := Int.emod_lt_of_pos U (show 0 < Y by omega)
  generalize hrr : U % Y = rh at *
  rw [tdiv_ediv hU0]
  generalize hqq : U / Y = q at *
  generalize hz1 : lo * p % 4294967296 = z at *
  have hqY0 : 0 ≤ q * Y := Int.mul_nonneg hq0 (by omega)
  rw [u64 (x := q) hq0 (by omega), u64 (x := q * Y) hqY0 (by omega), show U - q * Y = rh by omega, u64 (x := rh) hr0 (by omega)]
  rw [chk_pos (by omega), chk_pos (by omega), chk_pos (by omega), chk_pos (by omega), chk_pos (by omega)]
  obtain ⟨n, rfl⟩ : ∃ n, N = n + 1 := ⟨N - 1, by omega⟩
  have loop1 : Rc.div64.loop17 (n + 1) (n + 1) Y 0 z q rh = some (q, rh) := by
    unfold Rc.div64.loop17
    simp only [br_dec, Int.mul_zero]
    rw [if_neg (by omega), u64 (x := 0) (by omega) (by omega), u64 (x := 4294967296 * rh) (by omega) (by omega), u64 (x := 4294967296 * rh + z) (by omega) (by omega), if_neg (by omega)]
  rw [loop1, obind_of]
  simp only
  have hqYm : q * (Y * 4294967296) = q * Y * 4294967296 := by grind
  rw [u64_add, hqYm, u64_sub (a := U * 4294967296 + z) (b := q * Y * 4294967296), show U * 4294967296 + z - q * Y * 4294967296 = rh * 4294967296 + z by omega, u64 (x := rh * 4294967296 + z) (by omega) (by omega), tdiv_ediv (a := rh * 4294967296 + z) (by omega)]
  have hV0 : 0 ≤ rh * 4294967296 + z := by omega
  have hV1 : rh * 4294967296 + z < Y * 4294967296 := by omega
  have hv0 := Int.ediv_nonneg hV0 (show 0 ≤ Y by omega)
  have hv1 : (rh * 4294967296 + z) / Y < 4294967296 := Int.ediv_lt_of_lt_mul (by omega) (by rw [Int.mul_comm]; omega)
  have hvr : (rh * 4294967296 + z) / Y * Y + (rh * 4294967296 + z) % Y = rh * 4294967296 + z := by rw [Int.mul_comm]; exact Int.mul_ediv_add_emod _ Y
  have hw0 := Int.emod_nonneg (rh * 4294967296 + z) (show Y ≠ 0 by omega)
  have hw1 := Int.emod_lt_of_pos (rh * 4294967296 + z) (show 0 < Y by omega)
  -- the quotient
  have key : (hi * 18446744073709551616 + lo) / y = q * 4294967296 + (rh * 4294967296 + z) / Y := by
    have e1 : (hi * 18446744073709551616 + lo) * p = U * 4294967296 + z := by
      have : (hi * 18446744073709551616 + lo) * p = hi * p * 18446744073709551616 + lo * p := by grind
      omega
    have e2 : (hi * 18446744073709551616 + lo) / y = (U * 4294967296 + z) / Y := by
      rw [← e1, ← hYp, Int.mul_ediv_mul_of_pos_left _ _ hp0]
    rw [e2, show U * 4294967296 + z = (rh * 4294967296 + z) + (q * 4294967296) * Y by
      have : q * 4294967296 * Y = q * Y * 4294967296 := by grind
      omega, Int.add_mul_ediv_right _ _ (by omega)]
    omega
  generalize hvv : (rh * 4294967296 + z) / Y = v at *
  have hvY0 : 0 ≤ v * Y := Int.mul_nonneg hv0 (by omega)
  rw [chk_pos (by omega), u64 (x := v) hv0 (by omega), u64 (x := v * Y) hvY0 (by omega)]
  generalize hww : (rh * 4294967296 + z) % Y = w at *
  rw [show rh * 4294967296 + z - v * Y = w by omega, u64 (x := w) hw0 (by omega)]
  have loop2 : ∀ g : Int, 0 ≤ g → g < 4294967296 → Rc.div64.loop24 (n + 1) (n + 1) Y 0 g w v = some (w, v) := fun g g0 g1 => by
    unfold Rc.div64.loop24
    simp only [br_dec, Int.mul_zero]
    rw [if_neg (by omega), u64 (x := 0) (by omega) (by omega), u64 (x := 4294967296 * w) (by omega) (by omega), u64 (x := 4294967296 * w + g) (by omega) (by omega), if_neg (by omega)]
  rw [mask32 (x := lo * p * 4294967296 % 18446744073709551616) (by omega) (by omega), loop2 _ (by omega) (by omega), obind_of]
  simp only
  rw [chk_pos (by omega), u64 (x := q * 4294967296) (by omega) (by omega), u64 (x := q * 4294967296 + v) (by omega) (by omega), key]
  exact ⟨_, rfl⟩

theorem div64_F {hi lo y : Int} (h0 : 1 ≤ y) (hy : y < 1024) (a0 : 0 ≤ hi) (a1 : hi < y) (l0 : 0 ≤ lo) (l1 : lo < 18446744073709551616) (hN : 8 ≤ N) :
    ∃ r : Int, Rc.div64.F N hi lo y = some ((hi * 18446744073709551616 + lo) / y, r) := by
  by_cases c : hi = 0
  · subst c
    have := Int.ediv_nonneg l0 (show 0 ≤ y by omega)
    have := Int.ediv_le_self y l0
    unfold Rc.div64.F
    simp only [br_beq, br_dec]
    rw [if_neg (by omega), if_neg (by omega), if_pos trivial, chk_pos (by omega), chk_pos (by omega), tdiv_ediv l0, u64 (by omega) (by omega), Int.zero_mul, Int.zero_add]
    exact ⟨_, rfl⟩
  · obtain ⟨_, b0, b1, g0, g1⟩ := lz64_F (N := N) h0 hy
    have e1 : (2 : Int) ^ (bl y - 1).toNat * 2 ^ (32 - bl y).toNat = 2147483648 := by rw [← Int.pow_add, show (bl y - 1).toNat + (32 - bl y).toNat = 31 by omega]; rfl
    have e2 : (2 : Int) ^ (bl y).toNat * 2 ^ (32 - bl y).toNat = 4294967296 := by rw [← Int.pow_add, show (bl y).toNat + (32 - bl y).toNat = 32 by omega]; rfl
    have hp := p2pos (32 - bl y).toNat
    refine div64_core (t := (32 - bl y).toNat) h0 hy (by omega) a1 l0 l1 (by omega) (by omega) ?_ ?_ (by omega) hN
    · rw [← e1]; exact Int.mul_le_mul_of_nonneg_right g0 (by omega)
    · rw [← e2]; exact Int.mul_lt_mul_of_pos_right g1 hp
end
end Go.Pl
