/-
  Layer 17: a vector that has just so many pulses is the nearest to itself: the statement PvqExact.
  Conditions: none.
-/
import Derived.Test.YtgimkkepagcpkaaPlPvq6
set_option linter.unusedSimpArgs false
set_option linter.unusedVariables false
namespace Go.Pl
open Go.Eng Go.Proofs
set_option maxRecDepth 100000

theorem mul_small {f v : Int} (f0 : 1 ≤ f) (f1 : f ≤ 131072) (hv : v.natAbs ≤ 64) : -8388608 ≤ f * v ∧ f * v ≤ 8388608 ∧ ((f * v).natAbs : Int) = f * v.natAbs ∧ (f * v < 0 ↔ v < 0) := by
  have h1 : f * (v.natAbs : Int) ≤ 131072 * 64 := Int.mul_le_mul f1 (by omega) (by omega) (by omega)
  have h2 : 0 ≤ f * (v.natAbs : Int) := Int.mul_nonneg (by omega) (by omega)
  by_cases c : v < 0
  · have e : (v.natAbs : Int) = -v := by omega
    rw [e, Int.mul_neg] at h1 h2
    have h3 : f * v < 0 := by
      have : 1 * (-v) ≤ f * (-v) := Int.mul_le_mul_of_nonneg_right f0 (by omega)
      have e2 : f * (-v) = -(f * v) := Int.mul_neg f v
      omega
    exact ⟨by omega, by omega, by rw [e, Int.mul_neg]; omega, by omega⟩
  · have e : (v.natAbs : Int) = v := by omega
    rw [e] at h1 h2
    exact ⟨by omega, by omega, by rw [e]; omega, by omega⟩
theorem mg_mul {f v : Int} (f0 : 1 ≤ f) (f1 : f ≤ 131072) (hv : v.natAbs ≤ 64) : mg (f * v) = f * v.natAbs := by
  obtain ⟨a, b, c, _⟩ := mul_small f0 f1 hv
  unfold mg c24
  rw [if_neg (by omega), if_neg (by omega), c]
theorem exact_lists {f : Int} (f0 : 1 ≤ f) (f1 : f ≤ 131072) : ∀ y : List Int, (∀ x ∈ y, x.natAbs ≤ 64) →
    (y.map (f * ·)).map mg = y.map (fun v => f * (v.natAbs : Int)) ∧ sumL (y.map fun v => f * (v.natAbs : Int)) = f * (sz1 y : Int) ∧ sumL (y.map fun v => (v.natAbs : Int)) = sz1 y ∧ List.zipWith sg (y.map (f * ·)) (y.map fun v => (v.natAbs : Int)) = y
  | [], _ => ⟨rfl, by simp [sumL, sz1], by simp [sumL, sz1], rfl⟩
  | v :: y, h => by
    obtain ⟨i1, i2, i3, i4⟩ := exact_lists f0 f1 y fun x hx => h x (by simp [hx])
    have hv := h v (by simp)
    obtain ⟨_, _, _, m4⟩ := mul_small f0 f1 hv
    refine ⟨?_, ?_, ?_, ?_⟩
    · simp only [List.map_cons] at i1 ⊢
      rw [mg_mul f0 f1 hv, i1]
    · simp only [List.map_cons, sumL]
      rw [i2, sz1_cons, Int.natCast_add, Int.mul_add]
    · simp only [List.map_cons, sumL]
      rw [i3, sz1_cons, Int.natCast_add]
    · simp only [List.map_cons, List.zipWith_cons_cons]
      rw [i4]
      congr 1
      unfold sg
      split <;> omega

theorem near_exact {y : List Int} {f : Int} (f0 : 1 ≤ f) (f1 : f ≤ 131072) (hs : ∀ x ∈ y, x.natAbs ≤ 64) (hk : sz1 y ≠ 0) : nearL (y.map (f * ·)) (sz1 y) = y := by
  obtain ⟨e1, e2, e3, e4⟩ := exact_lists f0 f1 y hs
  have hp : 0 < f * (sz1 y : Int) := Int.mul_pos (by omega) (by omega)
  have e5 : (y.map (fun v => f * (v.natAbs : Int))).map (fun z => (sz1 y : Int) * z / (f * (sz1 y : Int))) = y.map fun v => (v.natAbs : Int) := by
    rw [List.map_map]
    apply List.map_congr_left
    intro v _
    show (sz1 y : Int) * (f * (v.natAbs : Int)) / (f * (sz1 y : Int)) = (v.natAbs : Int)
    rw [show (sz1 y : Int) * (f * (v.natAbs : Int)) = (v.natAbs : Int) * (f * (sz1 y : Int)) by grind, Int.mul_ediv_cancel _ (by omega)]
  unfold nearL
  rw [e1, e2, if_neg (by omega), e5, e3, Int.sub_self]
  exact e4

section
variable {N : Nat}
theorem exact_loop {n0 k0 i0 g0 : Int} {y : List Int} {f : Int} (f0 : 1 ≤ f) (f1 : f ≤ 131072) (hl : y.length ≤ 16) (hs : ∀ x ∈ y, x.natAbs ≤ 64) : ∀ (nn : Nat) (r pre A : List Int), y = pre ++ r → A.length = pre.length → r.length < nn →
    Rc.pvqExact.loop8 N n0 k0 i0 g0 nn y.length f y pre.length A = some (A ++ r.map (f * ·))
  | 0, r, pre, A, _, _, h => by omega
  | nn + 1, r, pre, A, hx, hA, h => by
    unfold Rc.pvqExact.loop8
    simp only [br_dec, chkL_same, chkI_same]
    have hlen : y.length = pre.length + r.length := by rw [hx, List.length_append]
    cases r with
    | nil => rw [if_neg (by simp at hlen; omega)]; simp
    | cons v r =>
      simp only [List.length_cons] at hlen h
      have hg : y.getD pre.length 0 = v := by rw [hx, get_at]
      obtain ⟨m1, m2, _, _⟩ := mul_small f0 f1 (hs v (by rw [hx]; simp))
      rw [if_pos (by omega), chk_pos (by omega), Int.toNat_natCast, hg, chk_pos (by simp only [List.length_singleton]; omega), i64 (x := f * v) (by omega) (by omega), i64 (x := (pre.length : Int) + 1) (by omega) (by omega)]
      have ih := exact_loop (n0 := n0) (k0 := k0) (i0 := i0) (g0 := g0) f0 f1 hl hs nn r (pre ++ [v]) (A ++ [f * v]) (by rw [hx]; simp) (by simp [hA]) (by omega)
      rw [show (((pre ++ [v]).length : Nat) : Int) = (pre.length : Int) + 1 by simp, List.append_assoc] at ih
      exact ih

theorem pvqExact_pure (n k i f : Int) : ∃ N, Rc.pvqExact.F N n k i f = some true := by
  refine ⟨3000, ?_⟩
  unfold Rc.pvqExact.F
  rw [awake17_F (by omega), obind_of]
  simp only [br_not, if_true, br_dec, br_bne, br_beq]
  rw [pvector_F _ _ _ (by omega), obind_of]
  by_cases c1 : ¬ VOk n k i
  · rw [if_neg c1, if_neg (by omega)]
  have c1 : VOk n k i := Decidable.not_not.1 c1
  rw [if_pos c1]
  simp only [if_true]
  by_cases c2 : f < 1
  · rw [if_pos c2]
  by_cases c3 : f > 131072
  · rw [if_neg c2, if_pos c3]
  by_cases c4 : k = 0
  · rw [if_neg c2, if_neg c3, if_pos c4]
  rw [if_neg c2, if_neg c3, if_neg c4]
  obtain ⟨u1, u2, u3⟩ := c1.un
  obtain ⟨g1, g2, g3, g4, g5, g6⟩ := c1
  obtain ⟨v1, v2, v3⟩ := vec_spec n.toNat k.toNat i g5 (by omega) u2
  generalize vec n.toNat k.toNat i = y at v1 v2 v3 ⊢
  obtain ⟨s1, s2⟩ := sz1_small y (by omega)
  have hl := exact_loop (N := 3000) (n0 := n) (k0 := k) (i0 := i) (g0 := f) (y := y) (f := f) (by omega) (by omega) (by omega) s2 3000 y [] [] rfl rfl (by omega)
  rw [show (([] : List Int).length : Int) = 0 from rfl, List.nil_append, show (y.length : Int) = n by omega] at hl
  have hn := near_exact (y := y) (f := f) (by omega) (by omega) s2 (by omega)
  rw [show ((sz1 y : Nat) : Int) = k by omega] at hn
  rw [hl, obind_of, pnear_F _ _ (by omega), obind_of, List.length_map, if_pos (show 1 ≤ y.length ∧ y.length ≤ 16 ∧ 0 ≤ k ∧ k ≤ mostT y.length by rw [show (y.length : Int) = n by omega]; omega)]
  simp only [if_true]
  rw [hn, same17_F _ (by omega) (by omega), obind_of]
end
end Go.Pl
