/-
  Layer 8: louder numbers are louder; the nearest number is no farther than others.
  Conditions: none.
-/
import Derived.Test.YtlbdcahecabfkaaPlGa3
set_option linter.unusedSimpArgs false
set_option linter.unusedVariables false
namespace Go.Pl
open Go.Eng Go.Proofs

theorem nlt8 {a b : Int} (h : b ≤ a) : ¬ a < b := by omega
theorem c63_mono {a b : Int} (h : a ≤ b) : c63 a ≤ c63 b := by
  unfold c63
  split <;> split <;> (try split) <;> (try split) <;> omega

theorem gainRises_pure (a b : Int) : ∃ N, Rc.gainRises.F N a b = some true := by
  refine ⟨30000, ?_⟩
  unfold Rc.gainRises.F
  rw [awake8_F (by omega), obind_of]
  simp only [br_not, if_true, br_dec]
  by_cases k1 : a > b
  · rw [if_pos k1]
  have ha := c63_range a
  have hb := c63_range b
  have hm := gz_mono ha.1 (c63_mono (show a ≤ b by omega)) hb.2
  obtain ⟨n0, n1, _⟩ := gnear_spec (gz (c63 b))
  rw [if_neg k1, gloud_F (by omega), obind_of, gnearest_F _ (by omega), obind_of, gloud_F (by omega), obind_of, obind_of, if_pos hm, gloud_F (by omega), obind_of, obind_of, c63_of n0 n1, gnear_gz hb.1 hb.2]
  simp

section
variable {N : Nat}
theorem gnear_loop {v g : Int} (hv : 0 ≤ v ∧ v ≤ 1099511627776) (hN : 1000 ≤ N) (g0 : 0 ≤ g) (g1 : g ≤ 63) (h1 : ∀ j, 0 ≤ j → j ≤ 63 → gds v g ≤ gds v j) (h2 : ∀ j, 0 ≤ j → j < g → gds v g < gds v j) (s : Bool) : ∀ (nn n : Nat) (k : Int), 0 ≤ k → k + n = 64 → n < nn →
    ∃ r, Rc.gainNear.loop9 N v nn v g k s = some (.inl r)
  | 0, n, k, _, _, h => by omega
  | nn + 1, n, k, k0, hk, h => by
    unfold Rc.gainNear.loop9
    simp only [br_dec, br_beq, chkI_same]
    rcases n with _ | n
    · rw [if_neg (by omega)]; exact ⟨s, rfl⟩
    · have zg := gz_range g0 g1
      have zk := gz_range (a := k) k0 (by omega)
      have a1 := h1 k k0 (by omega)
      have ih := gnear_loop hv hN g0 g1 h1 h2 s nn n (k + 1) (by omega) (by omega) (by omega)
      have a2 : k < g → gds v g < gds v k := fun h => h2 k k0 h
      unfold gds at a1 a2
      rw [if_pos (by omega), gloud_F hN, obind_of, gloud_F hN, obind_of, c63_of g0 g1, c63_of k0 (by omega), i64 (x := v - gz g) (by omega) (by omega), i64 (x := v - gz k) (by omega) (by omega), i64 (x := 0 - (v - gz g)) (by omega) (by omega), i64 (x := 0 - (v - gz k)) (by omega) (by omega), i64 (x := k + 1) (by omega) (by omega)]
      by_cases c1 : v - gz g < 0
      · rw [if_pos c1]
        rw [if_pos (show v ≤ gz g by omega)] at a1 a2
        by_cases c2 : v - gz k < 0
        · rw [if_pos c2]
          rw [if_pos (show v ≤ gz k by omega)] at a1 a2
          rw [if_neg (by omega)]
          split
          · rw [if_neg (by omega)]; exact ih
          · exact ih
        · rw [if_neg c2]
          by_cases c3 : v ≤ gz k
          · rw [if_pos c3] at a1 a2
            rw [if_neg (by omega)]
            split
            · rw [if_neg (by omega)]; exact ih
            · exact ih
          · rw [if_neg c3] at a1 a2
            rw [if_neg (by omega)]
            split
            · rw [if_neg (by omega)]; exact ih
            · exact ih
      · rw [if_neg c1]
        have e : (if v ≤ gz g then gz g - v else v - gz g) = v - gz g := by split <;> omega
        rw [e] at a1 a2
        by_cases c2 : v - gz k < 0
        · rw [if_pos c2]
          rw [if_pos (show v ≤ gz k by omega)] at a1 a2
          rw [if_neg (by omega)]
          split
          · rw [if_neg (by omega)]; exact ih
          · exact ih
        · rw [if_neg c2]
          have e2 : (if v ≤ gz k then gz k - v else v - gz k) = v - gz k := by split <;> omega
          rw [e2] at a1 a2
          rw [if_neg (by omega)]
          split
          · rw [if_neg (by omega)]; exact ih
          · exact ih
end

theorem gainNear_pure (v : Int) : ∃ N, Rc.gainNear.F N v = some true := by
  refine ⟨30000, ?_⟩
  unfold Rc.gainNear.F
  rw [awake8_F (by omega), obind_of]
  simp only [br_not, if_true, br_dec]
  by_cases k1 : v < 0
  · rw [if_pos k1]
  by_cases k2 : v > 1099511627776
  · rw [if_neg k1, if_pos k2]
  obtain ⟨n0, n1, n2, n3⟩ := gnear_spec v
  rw [if_neg k1, if_neg k2, gnearest_F v (by omega), obind_of, if_neg (nlt8 n0), if_neg (nlt8 n1)]
  obtain ⟨r, hr⟩ := gnear_loop (N := 30000) (v := v) ⟨by omega, by omega⟩ (by omega) n0 n1 n2 n3 false 30000 64 0 (by omega) (by omega) (by omega)
  rw [hr, osum_inl]
end Go.Pl
