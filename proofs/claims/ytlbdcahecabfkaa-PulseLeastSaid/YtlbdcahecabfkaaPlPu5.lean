/-
  Layer 9: silence and one pulse.
  Conditions: none.
-/
import Derived.Test.YtlbdcahecabfkaaPlPu4
set_option linter.unusedSimpArgs false
set_option linter.unusedVariables false
namespace Go.Pl
open Go.Eng Go.Proofs
theorem okB_of : ∀ (m : Nat) (l : List Int), cnt l ≤ 16 → okB m l = true
  | 0, _, _ => rfl
  | m + 1, l, h => by
    obtain ⟨c1, c2, c3⟩ := cnt_half (l := l) 16
    simp only [okB]
    rw [decide_eq_true (show cnt (l.take 16) ≤ 16 by omega), okB_of m _ (by omega)]
    rfl
theorem cnt_zeros : ∀ n : Nat, cnt (List.replicate n 0) = 0
  | 0 => rfl
  | n + 1 => by
    have : cnt (List.replicate (n + 1) 0) = ab (c32 0) + cnt (List.replicate n 0) := rfl
    rw [this, cnt_zeros n]
    decide
theorem cnt_set {v : Int} : ∀ (l : List Int) (i : Nat), cnt (l.set i v) ≤ cnt l + ab (c32 v)
  | [], i => by
    have := c32_ab v
    simp only [List.set_nil]
    omega
  | x :: r, 0 => by
    have h1 : cnt (x :: r) = ab (c32 x) + cnt r := rfl
    have h2 : cnt ((x :: r).set 0 v) = ab (c32 v) + cnt r := rfl
    have := c32_ab x
    omega
  | x :: r, i + 1 => by
    have h1 : cnt (x :: r) = ab (c32 x) + cnt r := rfl
    have h2 : cnt ((x :: r).set (i + 1) v) = ab (c32 x) + cnt (r.set i v) := rfl
    have := cnt_set (v := v) r i
    omega
theorem goodB_of {l : List Int} (h0 : 16 ≤ l.length) (h1 : l.length ≤ 480) (h2 : l.length % 16 = 0) (hc : cnt l ≤ 16) : goodB l = true := by
  unfold goodB mayB
  rw [okB_of _ _ hc, decide_eq_true h0, decide_eq_true h1, decide_eq_true h2]
  rfl
end Go.Pl
