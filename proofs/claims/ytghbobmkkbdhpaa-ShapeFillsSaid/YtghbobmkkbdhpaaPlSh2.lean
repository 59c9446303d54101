/-
  Layer 20: pulses are filled by both books alike.
  Conditions: none.
-/
import Derived.Test.YtghbobmkkbdhpaaPlSh
import Derived.Test.YtghbobmkkbdhpaaPlShQ
set_option linter.unusedSimpArgs false
set_option linter.unusedVariables false
namespace Go.Pl
open Go.Eng Go.Proofs

theorem down_val {a b : Int} (hb : 0 < b) : (if a.tmod b < 0 then a.tdiv b - 1 else a.tdiv b) = a / b := by
  by_cases h : 0 ≤ a
  · rw [if_neg (by rw [Int.tmod_eq_emod_of_nonneg h]; have := Int.emod_nonneg a (show b ≠ 0 by omega); omega), Int.tdiv_eq_ediv_of_nonneg h]
  · obtain ⟨c, rfl⟩ : ∃ c, a = -c := ⟨-a, by omega⟩
    have hc : 0 ≤ c := by omega
    have h1 := Int.emod_nonneg c (show b ≠ 0 by omega)
    have h2 := Int.emod_lt_of_pos c hb
    have h3 := Int.mul_ediv_add_emod c b
    rw [Int.neg_tmod, Int.neg_tdiv, Int.tmod_eq_emod_of_nonneg hc, Int.tdiv_eq_ediv_of_nonneg hc]
    by_cases d : c % b = 0
    · rw [d, if_neg (by decide)]
      have e : -c = b * -(c / b) := by rw [Int.mul_neg]; omega
      rw [e, Int.mul_ediv_cancel_left _ (by omega)]
    · rw [if_pos (by omega)]
      have e1 : b * (-(c / b) - 1) = -(b * (c / b)) - b := by grind
      have e : -c = (b - c % b) + b * (-(c / b) - 1) := by omega
      have hz : (b - c % b) / b = 0 := Int.ediv_eq_zero_of_lt (by omega) (by omega)
      rw [e, Int.add_mul_ediv_left _ _ (by omega), hz]
      omega

section
variable {N : Nat}
theorem sdown_F {a b : Int} (hb : 0 < b) (h0 : -4611686018427387904 ≤ a) (h1 : a ≤ 4611686018427387904) : Rc.sdown.F N a b = some (a / b) := by
  unfold Rc.sdown.F
  have hv := down_val (a := a) hb
  have hq1 : -4611686018427387904 ≤ a.tdiv b ∧ a.tdiv b ≤ 4611686018427387904 := by
    by_cases h : 0 ≤ a
    · rw [Int.tdiv_eq_ediv_of_nonneg h]
      have := Int.ediv_le_self b h
      have := Int.ediv_nonneg h (show 0 ≤ b by omega)
      omega
    · obtain ⟨c, rfl⟩ : ∃ c, a = -c := ⟨-a, by omega⟩
      rw [Int.neg_tdiv, Int.tdiv_eq_ediv_of_nonneg (by omega)]
      have := Int.ediv_le_self b (show 0 ≤ c by omega)
      have := Int.ediv_nonneg (show 0 ≤ c by omega) (show 0 ≤ b by omega)
      omega
  simp only [br_dec]
  rw [chk_pos (by omega), chk_pos (by omega), i64 (x := a.tdiv b) (by omega) (by omega), i64 (x := a.tdiv b - 1) (by omega) (by omega), ← hv]
  split <;> rfl
theorem rdown_F {a b : Int} (hb : 0 < b) (h0 : -4611686018427387904 ≤ a) (h1 : a ≤ 4611686018427387904) : Rc.rdown.F N a b = some (a / b) := sdown_F (N := N) hb h0 h1
end
end Go.Pl
