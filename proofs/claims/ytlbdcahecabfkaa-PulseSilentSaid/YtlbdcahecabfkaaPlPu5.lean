/-
  Layer 9: silence and one pulse.
  Conditions: none.
-/
import Derived.Test.YtlbdcahecabfkaaPlPu4
set_option linter.unusedSimpArgs false
set_option linter.unusedVariables false
namespace Go.Pl
open Go.Eng Go.Proofs
theorem okB_of : ∀ (m : Nat) (l : List Int), cnt l ≤ 16 → okB m l = true
  | 0, _, _ => rfl
  | m + 1, l, h => by
    obtain ⟨c1, c2, c3⟩ := cnt_half (l := l) 16
    simp only [okB]
    rw [decide_eq_true (show cnt (l.take 16) ≤ 16 by omega), okB_of m _ (by omega)]
    rfl
theorem cnt_zeros : ∀ n : Nat, cnt (List.replicate n 0) = 0
  | 0 => rfl
  | n + 1 => by
    have : cnt (List.replicate (n + 1) 0) = ab (c32 0) + cnt (List.replicate n 0) := rfl
    rw [this, cnt_zeros n]
    decide
theorem cnt_set {v : Int} : ∀ (l : List Int) (i : Nat), cnt (l.set i v) ≤ cnt l + ab (c32 v)
  | [], i => by
    have := c32_ab v
    simp only [List.set_nil]
    omega
  | x :: r, 0 => by
    have h1 : cnt (x :: r) = ab (c32 x) + cnt r := rfl
    have h2 : cnt ((x :: r).set 0 v) = ab (c32 v) + cnt r := rfl
    have := c32_ab x
    omega
  | x :: r, i + 1 => by
    have h1 : cnt (x :: r) = ab (c32 x) + cnt r := rfl
    have h2 : cnt ((x :: r).set (i + 1) v) = ab (c32 x) + cnt (r.set i v) := rfl
    have := cnt_set (v := v) r i
    omega
theorem goodB_of {l : List Int} (h0 : 16 ≤ l.length) (h1 : l.length ≤ 480) (h2 : l.length % 16 = 0) (hc : cnt l ≤ 16) : goodB l = true := by
  unfold goodB mayB
  rw [okB_of _ _ hc, decide_eq_true h0, decide_eq_true h1, decide_eq_true h2]
  rfl
theorem pulseBackFn_F {N : Nat} (hN : 30000 ≤ N) (l : List Int) : Rc.pulseBackFn.F N l = some true := pulseBack_F hN l
theorem pulseSilent_pure (n at_ : Int) (minus : Bool) : ∃ N, Rc.pulseSilent.F N n at_ minus = some true := by
  refine ⟨30000, ?_⟩
  unfold Rc.pulseSilent.F
  rw [awake9_F (by omega), obind_of]
  simp only [br_not, if_true, br_dec, br_bne]
  by_cases c1 : n < 16
  · rw [if_pos c1]
  rw [if_neg c1]
  by_cases c2 : n > 320
  · rw [if_pos c2]
  rw [if_neg c2, Int.tmod_eq_emod_of_nonneg (by omega)]
  by_cases c3 : n % 16 = 0
  · rw [if_pos c3]
    by_cases c4 : at_ < 0
    · rw [if_pos c4]
    rw [if_neg c4]
    by_cases c5 : at_ ≥ n
    · rw [if_pos c5]
    rw [if_neg c5]
    obtain ⟨m, rfl⟩ := Int.eq_ofNat_of_zero_le (show 0 ≤ n by omega)
    obtain ⟨i, rfl⟩ := Int.eq_ofNat_of_zero_le (show 0 ≤ at_ by omega)
    simp only [Int.toNat_natCast, List.length_set, List.length_replicate, List.set_set]
    have hz : goodB (List.replicate m 0) = true := goodB_of (by simp; omega) (by simp; omega) (by simp; omega) (by rw [cnt_zeros]; decide)
    have h1 : goodB ((List.replicate m 0).set i 1) = true := goodB_of (by simp; omega) (by simp; omega) (by simp; omega) (by have := cnt_set (v := 1) (List.replicate m 0) i; rw [cnt_zeros] at this; have e : ab (c32 1) = 1 := (by decide); omega)
    have h2 : goodB ((List.replicate m 0).set i (-1)) = true := goodB_of (by simp; omega) (by simp; omega) (by simp; omega) (by have := cnt_set (v := -1) (List.replicate m 0) i; rw [cnt_zeros] at this; have e : ab (c32 (-1)) = 1 := (by decide); omega)
    rw [chk_pos (by omega), good9_F _ (Nat.le_refl _), obind_of, hz, if_pos rfl, chk_pos (by omega)]
    cases minus with
    | true =>
      rw [br_true, chk_pos (by omega), pulseBackFn_F (Nat.le_refl _), obind_of, br_true, chk_pos (by omega), pulseBackFn_F (Nat.le_refl _), obind_of, br_true, good9_F _ (Nat.le_refl _), obind_of, h2]
    | false =>
      rw [br_false, pulseBackFn_F (Nat.le_refl _), obind_of, br_true, chk_pos (by omega), pulseBackFn_F (Nat.le_refl _), obind_of, br_true, good9_F _ (Nat.le_refl _), obind_of, h1]
  · rw [if_neg c3]
end Go.Pl
