/-
  Layer 8: how loud the numbers are, and which one is gnear.
  Conditions: none.
-/
import Derived.Test.YtlbdcahecabfkaaPlGa
set_option linter.unusedSimpArgs false
set_option linter.unusedVariables false
namespace Go.Pl
open Go.Eng Go.Proofs
set_option maxRecDepth 100000

def gzT : List Int := [1, 1, 1, 2, 2, 3, 3, 4, 5, 6, 7, 8, 10, 12, 14, 17, 21, 25, 30, 37, 44, 54, 65, 78, 95, 114, 138, 167, 202, 244, 295, 356, 431, 520, 629, 760, 919, 1111, 1342, 1623, 1961, 2370, 2865, 3463, 4186, 5059, 6115, 7391, 8933, 10798, 13051, 15775, 19066, 23045, 27855, 33667, 40693, 49185, 59449, 71856, 86851, 104975, 126882, 153360]
def gz (i : Int) : Int := gzT.getD i.toNat 0

theorem gexp2_all (N : Nat) : (List.range 64).map (fun (i : Nat) => Rc.exp2.F (N + 1000) (70 * (i : Int))) = gzT.map some := by kernel_rfl
theorem rgexp2_all (N : Nat) : (List.range 64).map (fun (i : Nat) => Rc.rexp2.F (N + 1000) (70 * (i : Int))) = gzT.map some := by kernel_rfl
theorem gz_mono1 : ∀ i : Fin 63, gzT.getD i.val 0 ≤ gzT.getD (i.val + 1) 0 := by decide +kernel
theorem gz_bnd : ∀ i : Fin 64, 0 ≤ gzT.getD i.val 0 ∧ gzT.getD i.val 0 ≤ 153360 := by decide +kernel

theorem gof_all {f : Nat → Option Int} (h : (List.range 64).map f = gzT.map some) {i : Nat} (hi : i ≤ 63) : f i = some (gzT.getD i 0) := by
  have e := congrArg (fun l => l[i]?) h
  simp only [List.getElem?_map] at e
  have hl : gzT.length = 64 := by decide +kernel
  rw [List.getElem?_range (by omega), List.getElem?_eq_getElem (by omega)] at e
  simp only [Option.map_some, Option.some.injEq] at e
  rw [e, List.getD_eq_getElem?_getD, List.getElem?_eq_getElem (by omega)]
  rfl

theorem gz_le : ∀ (d i : Nat), i + d ≤ 63 → gzT.getD i 0 ≤ gzT.getD (i + d) 0
  | 0, i, _ => Int.le_refl _
  | d + 1, i, h => Int.le_trans (gz_le d i (by omega)) (gz_mono1 ⟨i + d, by omega⟩)
theorem gz_mono {a b : Int} (_ : 0 ≤ a) (h : a ≤ b) (h1 : b ≤ 63) : gz a ≤ gz b := by
  have := gz_le (b.toNat - a.toNat) a.toNat (by omega)
  rw [show a.toNat + (b.toNat - a.toNat) = b.toNat by omega] at this
  exact this
theorem gz_range {a : Int} (h0 : 0 ≤ a) (h1 : a ≤ 63) : 0 ≤ gz a ∧ gz a ≤ 153360 := gz_bnd ⟨a.toNat, by omega⟩

section
variable {N : Nat}
theorem gloud_F (hN : 1000 ≤ N) (v : Int) : Rc.gloud.F N v = some (gz (c63 v)) := by
  obtain ⟨k, rfl⟩ : ∃ k, N = k + 1000 := ⟨N - 1000, by omega⟩
  have hc := c63_range v
  have h := gof_all (gexp2_all k) (i := (c63 v).toNat) (by omega)
  rw [show ((c63 v).toNat : Int) = c63 v by omega] at h
  unfold Rc.gloud.F
  rw [gclamp_F, obind_of, i64 (by omega) (by omega), h, obind_of]
  rfl
theorem rloud_F (hN : 1000 ≤ N) (v : Int) : Rc.rloud.F N v = some (gz (c63 v)) := by
  obtain ⟨k, rfl⟩ : ∃ k, N = k + 1000 := ⟨N - 1000, by omega⟩
  have hc := c63_range v
  have h := gof_all (rgexp2_all k) (i := (c63 v).toNat) (by omega)
  rw [show ((c63 v).toNat : Int) = c63 v by omega] at h
  unfold Rc.rloud.F
  rw [rclamp63, obind_of, i64 (by omega) (by omega), h, obind_of]
  rfl
end
theorem c63_same {v : Int} (h0 : 0 ≤ v) (h1 : v ≤ 63) : c63 v = v := by unfold c63; rw [if_neg (by omega), if_neg (by omega)]

/-! ### Nearest -/
def gds (v i : Int) : Int := if v ≤ gz i then gz i - v else v - gz i
def gnr (v : Int) : Nat → Int → Int → Int
  | 0, b, _ => b
  | n + 1, b, i => gnr v n (if gds v i < gds v b then i else b) (i + 1)
def gnear (v : Int) : Int := gnr v 63 0 1

theorem gnr_spec (v : Int) : ∀ (n : Nat) (b i : Int), 0 ≤ b → b < i → i + n = 64 → (∀ j, 0 ≤ j → j < i → gds v b ≤ gds v j) → (∀ j, 0 ≤ j → j < b → gds v b < gds v j) →
    0 ≤ gnr v n b i ∧ gnr v n b i ≤ 63 ∧ (∀ j, 0 ≤ j → j ≤ 63 → gds v (gnr v n b i) ≤ gds v j) ∧ (∀ j, 0 ≤ j → j < gnr v n b i → gds v (gnr v n b i) < gds v j)
  | 0, b, i, h0, h1, h2, ha, hb => ⟨h0, by simp only [gnr]; omega, fun j j0 j1 => ha j j0 (by omega), hb⟩
  | n + 1, b, i, h0, h1, h2, ha, hb => by
    simp only [gnr]
    by_cases c : gds v i < gds v b
    · rw [if_pos c]
      refine gnr_spec v n i (i + 1) (by omega) (by omega) (by omega) (fun j j0 j1 => ?_) (fun j j0 j1 => ?_)
      · rcases Int.lt_or_le j i with h | h
        · have := ha j j0 h; omega
        · obtain rfl : j = i := by omega
          exact Int.le_refl _
      · have := ha j j0 j1; omega
    · rw [if_neg c]
      refine gnr_spec v n b (i + 1) (by omega) (by omega) (by omega) (fun j j0 j1 => ?_) hb
      rcases Int.lt_or_le j i with h | h
      · exact ha j j0 h
      · obtain rfl : j = i := by omega
        omega
theorem gnear_spec (v : Int) : 0 ≤ gnear v ∧ gnear v ≤ 63 ∧ (∀ j, 0 ≤ j → j ≤ 63 → gds v (gnear v) ≤ gds v j) ∧ (∀ j, 0 ≤ j → j < gnear v → gds v (gnear v) < gds v j) :=
  gnr_spec v 63 0 1 (by omega) (by omega) (by omega) (fun j j0 j1 => (show j = 0 by omega) ▸ Int.le_refl _) (fun j j0 j1 => by omega)

theorem gnear_mono {v w : Int} (h : v ≤ w) : gnear v ≤ gnear w := by
  obtain ⟨a0, a1, a2, a3⟩ := gnear_spec v
  obtain ⟨b0, b1, b2, b3⟩ := gnear_spec w
  rcases Int.lt_or_le (gnear w) (gnear v) with c | c
  · have h1 := a3 _ b0 c
    have h2 := b2 _ a0 a1
    have h3 := gz_mono b0 (by omega : gnear w ≤ gnear v) a1
    unfold gds at h1 h2
    split at h1 <;> split at h1 <;> split at h2 <;> split at h2 <;> omega
  · exact c
theorem gnear_gz {a : Int} (h0 : 0 ≤ a) (h1 : a ≤ 63) : gz (gnear (gz a)) = gz a := by
  obtain ⟨a0, a1, a2, a3⟩ := gnear_spec (gz a)
  have h := a2 a h0 h1
  unfold gds at h
  rw [if_pos (Int.le_refl _)] at h
  split at h <;> omega

/-- A number far off may be taken nearer. -/
def gcut (v : Int) : Int := if v < 0 then 0 else if v > 306720 then 306720 else v
theorem gds_cut {v i j : Int} (hi : 0 ≤ gz i ∧ gz i ≤ 153360) (hj : 0 ≤ gz j ∧ gz j ≤ 153360) : (gds (gcut v) i < gds (gcut v) j) = (gds v i < gds v j) := by
  apply propext
  unfold gds gcut
  split <;> (try split) <;> split <;> split <;> (try split) <;> (try split) <;> omega
theorem gnr_cut (v : Int) : ∀ (n : Nat) (b i : Int), 0 ≤ b → b < i → i + n = 64 → gnr (gcut v) n b i = gnr v n b i
  | 0, b, i, _, _, _ => rfl
  | n + 1, b, i, h0, h1, h2 => by
    simp only [gnr, gds_cut (v := v) (gz_range (a := i) (by omega) (by omega)) (gz_range (a := b) (by omega) (by omega))]
    split
    · exact gnr_cut v n i (i + 1) (by omega) (by omega) (by omega)
    · exact gnr_cut v n b (i + 1) (by omega) (by omega) (by omega)
theorem gnear_cut (v : Int) : gnear (gcut v) = gnear v := gnr_cut v 63 0 1 (by omega) (by omega) (by omega)

section
variable {N : Nat}
theorem gfar_F {a v : Int} (ha : 0 ≤ a ∧ a ≤ 153360) (hv : 0 ≤ v ∧ v ≤ 306720) : Rc.gfar.F N a v = some (if v ≤ a then a - v else v - a) := by
  unfold Rc.gfar.F
  rw [i64 (x := v - a) (by omega) (by omega), i64 (x := a - v) (by omega) (by omega)]
  refine congrArg some ?_
  show (if v - a > a - v then v - a else a - v : Int) = (if v ≤ a then a - v else v - a : Int)
  by_cases h1 : v - a > a - v
  · rw [if_pos h1]
    by_cases h2 : v ≤ a
    · rw [if_pos h2]; omega
    · rw [if_neg h2]
  · rw [if_neg h1]
    by_cases h2 : v ≤ a
    · rw [if_pos h2]
    · rw [if_neg h2]; omega
theorem r6far_F {a v : Int} (ha : 0 ≤ a ∧ a ≤ 153360) (hv : -9223372036854775808 ≤ v ∧ v < 9223372036854775808) : Rc.r6far.F N v a = some (if v ≤ a then a - v else v - a) := by
  unfold Rc.r6far.F
  simp only [br_dec, u64_mod]
  by_cases c : v ≥ a
  · rw [if_pos c]
    refine congrArg some ?_
    show (v % 18446744073709551616 - a % 18446744073709551616) % 18446744073709551616 = (if v ≤ a then a - v else v - a : Int)
    by_cases h2 : v ≤ a
    · rw [if_pos h2]; omega
    · rw [if_neg h2]; omega
  · rw [if_neg c, if_pos (by omega)]
    refine congrArg some ?_
    show (a % 18446744073709551616 - v % 18446744073709551616) % 18446744073709551616 = a - v
    omega

theorem gfar_ds {v i : Int} (hi : 0 ≤ i ∧ i ≤ 63) (hv : 0 ≤ v ∧ v ≤ 306720) : Rc.gfar.F N (gz i) v = some (gds v i) := gfar_F (gz_range hi.1 hi.2) hv
theorem r6far_ds {v i : Int} (hi : 0 ≤ i ∧ i ≤ 63) (hv : -9223372036854775808 ≤ v ∧ v < 9223372036854775808) : Rc.r6far.F N v (gz i) = some (gds v i) := r6far_F (gz_range hi.1 hi.2) hv
theorem gnearest_loop {v : Int} (hv : 0 ≤ v ∧ v ≤ 306720) (hN : 1000 ≤ N) : ∀ (nn n : Nat) (b i : Int), 0 ≤ b → b < i → i + n = 64 → n < nn → Rc.gnearest.loop4 N nn v b i = some (gnr v n b i)
  | 0, n, b, i, _, _, _, h => by omega
  | nn + 1, n, b, i, h0, h1, h2, h => by
    unfold Rc.gnearest.loop4
    simp only [br_dec, chkI_same]
    rcases n with _ | n
    · rw [if_neg (by omega)]; rfl
    · rw [if_pos (by omega), gloud_F hN, obind_of, c63_same (v := i) (by omega) (by omega), gfar_ds ⟨by omega, by omega⟩ hv, obind_of, gloud_F hN, obind_of, c63_same (v := b) (by omega) (by omega), gfar_ds ⟨by omega, by omega⟩ hv, obind_of, i64 (x := i + 1) (by omega) (by omega)]
      simp only [gnr]
      by_cases c : gds v i < gds v b
      · rw [if_pos c, if_pos c]; exact gnearest_loop hv hN nn n i (i + 1) (by omega) (by omega) (by omega) (by omega)
      · rw [if_neg c, if_neg c]; exact gnearest_loop hv hN nn n b (i + 1) (by omega) (by omega) (by omega) (by omega)
theorem gnearest_F (v : Int) (hN : 1000 ≤ N) : Rc.gnearest.F N v = some (gnear v) := by
  have e : gz (c63 63) = 153360 := by decide +kernel
  have hc : Rc.clamp.F N v 0 306720 = some (gcut v) := by
    unfold Rc.clamp.F gcut
    simp only [br_dec]
    by_cases c1 : v < 0
    · rw [if_neg (by omega), if_pos c1, if_pos c1]
    by_cases c2 : v > 306720
    · rw [if_neg (by omega), if_neg c1, if_pos c2, if_neg c1, if_pos c2]
    · rw [if_neg (by omega), if_neg c1, if_neg c2, if_neg c1, if_neg c2]
  unfold Rc.gnearest.F
  rw [gloud_F hN, obind_of, e, i64 (x := 2 * 153360) (by omega) (by omega), show (2 : Int) * 153360 = 306720 from rfl, hc, obind_of, gnearest_loop (v := gcut v) (by unfold gcut; split <;> (try split) <;> omega) hN N 63 0 1 (by omega) (by omega) (by omega) (by omega), obind_of]
  exact congrArg some (gnear_cut v)
theorem rgnearest_loop {v : Int} (hv : -9223372036854775808 ≤ v ∧ v < 9223372036854775808) (hN : 1000 ≤ N) : ∀ (nn n : Nat) (b i : Int), 0 ≤ b → b < i → i + n = 64 → n < nn → Rc.rgnearest.loop3 N nn v b i = some (gnr v n b i)
  | 0, n, b, i, _, _, _, h => by omega
  | nn + 1, n, b, i, h0, h1, h2, h => by
    unfold Rc.rgnearest.loop3
    simp only [br_dec, chkI_same]
    rcases n with _ | n
    · rw [if_neg (by omega)]; rfl
    · rw [if_pos (by omega), rloud_F hN, obind_of, c63_same (v := i) (by omega) (by omega), r6far_ds ⟨by omega, by omega⟩ hv, obind_of, rloud_F hN, obind_of, c63_same (v := b) (by omega) (by omega), r6far_ds ⟨by omega, by omega⟩ hv, obind_of, i64 (x := i + 1) (by omega) (by omega)]
      simp only [gnr]
      by_cases c : gds v i < gds v b
      · rw [if_pos c, if_pos c]; exact rgnearest_loop hv hN nn n i (i + 1) (by omega) (by omega) (by omega) (by omega)
      · rw [if_neg c, if_neg c]; exact rgnearest_loop hv hN nn n b (i + 1) (by omega) (by omega) (by omega) (by omega)
theorem rgnearest_F {v : Int} (hv : -9223372036854775808 ≤ v ∧ v < 9223372036854775808) (hN : 1000 ≤ N) : Rc.rgnearest.F N v = some (gnear v) := by
  unfold Rc.rgnearest.F
  rw [rgnearest_loop hv hN N 63 0 1 (by omega) (by omega) (by omega) (by omega), obind_of]
  rfl
end
end Go.Pl
