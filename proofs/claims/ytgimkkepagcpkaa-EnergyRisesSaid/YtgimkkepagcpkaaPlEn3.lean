/-
  Layer 19: the sizes of the energies, and which number is nearest.
  Conditions: none.
-/
import Derived.Test.YtgimkkepagcpkaaPlEn
set_option linter.unusedSimpArgs false
set_option linter.unusedVariables false
namespace Go.Pl
open Go.Eng Go.Proofs
set_option maxRecDepth 100000

def szT : List Int := [1, 1, 1, 2, 2, 2, 3, 3, 4, 5, 6, 7, 8, 10, 11, 13, 16, 19, 23, 27, 32, 38, 45, 54, 64, 76, 91, 108, 128, 152, 181, 215, 256, 304, 362, 431, 512, 609, 724, 861, 1024, 1218, 1448, 1722, 2048, 2435, 2896, 3444, 4096, 4871, 5793, 6889, 8192, 9742, 11585, 13777, 16384, 19484, 23170, 27554, 32768, 38968, 46341, 55109, 65536, 77936, 92682, 110218, 131072, 155872, 185364, 220436, 262144, 311744, 370728, 440872, 524288, 623487, 741455, 881744, 1048576, 1246974, 1482910, 1763488, 2097152, 2493948, 2965821, 3526975, 4194304, 4987896, 5931642, 7053950, 8388608, 9975792, 11863283, 14107901, 16777216, 19951585, 23726566, 28215802, 33554432]
def sz (i : Int) : Int := szT.getD i.toNat 0

theorem exp2_all (N : Nat) : (List.range 101).map (fun (i : Nat) => Rc.exp2.F (N + 1000) (64 * (i : Int))) = szT.map some := by kernel_rfl
theorem rexp2_all (N : Nat) : (List.range 101).map (fun (i : Nat) => Rc.rexp2.F (N + 1000) (64 * (i : Int))) = szT.map some := by kernel_rfl
theorem sz_mono1 : ∀ i : Fin 100, szT.getD i.val 0 ≤ szT.getD (i.val + 1) 0 := by decide +kernel
theorem sz_bnd : ∀ i : Fin 101, 0 ≤ szT.getD i.val 0 ∧ szT.getD i.val 0 ≤ 33554432 := by decide +kernel

theorem of_all {f : Nat → Option Int} (h : (List.range 101).map f = szT.map some) {i : Nat} (hi : i ≤ 100) : f i = some (szT.getD i 0) := by
  have e := congrArg (fun l => l[i]?) h
  simp only [List.getElem?_map] at e
  have hl : szT.length = 101 := by decide +kernel
  rw [List.getElem?_range (by omega), List.getElem?_eq_getElem (by omega)] at e
  simp only [Option.map_some, Option.some.injEq] at e
  rw [e, List.getD_eq_getElem?_getD, List.getElem?_eq_getElem (by omega)]
  rfl

theorem sz_le : ∀ (d i : Nat), i + d ≤ 100 → szT.getD i 0 ≤ szT.getD (i + d) 0
  | 0, i, _ => Int.le_refl _
  | d + 1, i, h => Int.le_trans (sz_le d i (by omega)) (sz_mono1 ⟨i + d, by omega⟩)
theorem sz_mono {a b : Int} (_ : 0 ≤ a) (h : a ≤ b) (h1 : b ≤ 100) : sz a ≤ sz b := by
  have := sz_le (b.toNat - a.toNat) a.toNat (by omega)
  rw [show a.toNat + (b.toNat - a.toNat) = b.toNat by omega] at this
  exact this
theorem sz_range {a : Int} (h0 : 0 ≤ a) (h1 : a ≤ 100) : 0 ≤ sz a ∧ sz a ≤ 33554432 := sz_bnd ⟨a.toNat, by omega⟩

section
variable {N : Nat}
theorem rclamp100 (v : Int) : Rc.rclamp.F N v 0 100 = some (cl v) := by
  have h := hundred_F (N := N) v
  unfold Rc.hundred.F at h
  cases hc : Rc.rclamp.F N v 0 100 with
  | none => rw [hc] at h; cases h
  | some x => rw [hc, obind_of] at h; exact h

theorem esize_F (hN : 1000 ≤ N) (v : Int) : Rc.esize.F N v = some (sz (cl v)) := by
  obtain ⟨k, rfl⟩ : ∃ k, N = k + 1000 := ⟨N - 1000, by omega⟩
  have hc := cl_range v
  have h := of_all (exp2_all k) (i := (cl v).toNat) (by omega)
  rw [show ((cl v).toNat : Int) = cl v by omega] at h
  unfold Rc.esize.F
  rw [eclamp_F, obind_of, i64 (by omega) (by omega), h, obind_of]
  rfl
theorem rsize_F (hN : 1000 ≤ N) (v : Int) : Rc.rsize.F N v = some (sz (cl v)) := by
  obtain ⟨k, rfl⟩ : ∃ k, N = k + 1000 := ⟨N - 1000, by omega⟩
  have hc := cl_range v
  have h := of_all (rexp2_all k) (i := (cl v).toNat) (by omega)
  rw [show ((cl v).toNat : Int) = cl v by omega] at h
  unfold Rc.rsize.F
  rw [rclamp100, obind_of, i64 (by omega) (by omega), h, obind_of]
  rfl
end
theorem cl_same {v : Int} (h0 : 0 ≤ v) (h1 : v ≤ 100) : cl v = v := by unfold cl; rw [if_neg (by omega), if_neg (by omega)]

/-! ### Nearest -/
def ds (v i : Int) : Int := if v ≤ sz i then sz i - v else v - sz i
def nr (v : Int) : Nat → Int → Int → Int
  | 0, b, _ => b
  | n + 1, b, i => nr v n (if ds v i < ds v b then i else b) (i + 1)
def nearest (v : Int) : Int := nr v 100 0 1

theorem nr_spec (v : Int) : ∀ (n : Nat) (b i : Int), 0 ≤ b → b < i → i + n = 101 → (∀ j, 0 ≤ j → j < i → ds v b ≤ ds v j) → (∀ j, 0 ≤ j → j < b → ds v b < ds v j) →
    0 ≤ nr v n b i ∧ nr v n b i ≤ 100 ∧ (∀ j, 0 ≤ j → j ≤ 100 → ds v (nr v n b i) ≤ ds v j) ∧ (∀ j, 0 ≤ j → j < nr v n b i → ds v (nr v n b i) < ds v j)
  | 0, b, i, h0, h1, h2, ha, hb => ⟨h0, by simp only [nr]; omega, fun j j0 j1 => ha j j0 (by omega), hb⟩
  | n + 1, b, i, h0, h1, h2, ha, hb => by
    simp only [nr]
    by_cases c : ds v i < ds v b
    · rw [if_pos c]
      refine nr_spec v n i (i + 1) (by omega) (by omega) (by omega) (fun j j0 j1 => ?_) (fun j j0 j1 => ?_)
      · rcases Int.lt_or_le j i with h | h
        · have := ha j j0 h; omega
        · obtain rfl : j = i := by omega
          exact Int.le_refl _
      · have := ha j j0 j1; omega
    · rw [if_neg c]
      refine nr_spec v n b (i + 1) (by omega) (by omega) (by omega) (fun j j0 j1 => ?_) hb
      rcases Int.lt_or_le j i with h | h
      · exact ha j j0 h
      · obtain rfl : j = i := by omega
        omega
theorem nearest_spec (v : Int) : 0 ≤ nearest v ∧ nearest v ≤ 100 ∧ (∀ j, 0 ≤ j → j ≤ 100 → ds v (nearest v) ≤ ds v j) ∧ (∀ j, 0 ≤ j → j < nearest v → ds v (nearest v) < ds v j) :=
  nr_spec v 100 0 1 (by omega) (by omega) (by omega) (fun j j0 j1 => (show j = 0 by omega) ▸ Int.le_refl _) (fun j j0 j1 => by omega)

theorem nearest_mono {v w : Int} (h : v ≤ w) : nearest v ≤ nearest w := by
  obtain ⟨a0, a1, a2, a3⟩ := nearest_spec v
  obtain ⟨b0, b1, b2, b3⟩ := nearest_spec w
  rcases Int.lt_or_le (nearest w) (nearest v) with c | c
  · have h1 := a3 _ b0 c
    have h2 := b2 _ a0 a1
    have h3 := sz_mono b0 (by omega : nearest w ≤ nearest v) a1
    unfold ds at h1 h2
    split at h1 <;> split at h1 <;> split at h2 <;> split at h2 <;> omega
  · exact c
theorem nearest_sz {a : Int} (h0 : 0 ≤ a) (h1 : a ≤ 100) : sz (nearest (sz a)) = sz a := by
  obtain ⟨a0, a1, a2, a3⟩ := nearest_spec (sz a)
  have h := a2 a h0 h1
  unfold ds at h
  rw [if_pos (Int.le_refl _)] at h
  split at h <;> omega

/-- A number far off may be taken nearer. -/
def cut (v : Int) : Int := if v < 0 then 0 else if v > 67108864 then 67108864 else v
theorem ds_cut {v i j : Int} (hi : 0 ≤ sz i ∧ sz i ≤ 33554432) (hj : 0 ≤ sz j ∧ sz j ≤ 33554432) : (ds (cut v) i < ds (cut v) j) = (ds v i < ds v j) := by
  apply propext
  unfold ds cut
  split <;> (try split) <;> split <;> split <;> (try split) <;> (try split) <;> omega
theorem nr_cut (v : Int) : ∀ (n : Nat) (b i : Int), 0 ≤ b → b < i → i + n = 101 → nr (cut v) n b i = nr v n b i
  | 0, b, i, _, _, _ => rfl
  | n + 1, b, i, h0, h1, h2 => by
    simp only [nr, ds_cut (v := v) (sz_range (a := i) (by omega) (by omega)) (sz_range (a := b) (by omega) (by omega))]
    split
    · exact nr_cut v n i (i + 1) (by omega) (by omega) (by omega)
    · exact nr_cut v n b (i + 1) (by omega) (by omega) (by omega)
theorem nearest_cut (v : Int) : nearest (cut v) = nearest v := nr_cut v 100 0 1 (by omega) (by omega) (by omega)

section
variable {N : Nat}
theorem efar_F {a v : Int} (ha : 0 ≤ a ∧ a ≤ 33554432) (hv : 0 ≤ v ∧ v ≤ 67108864) : Rc.efar.F N a v = some (if v ≤ a then a - v else v - a) := by
  unfold Rc.efar.F
  rw [i64 (x := v - a) (by omega) (by omega), i64 (x := a - v) (by omega) (by omega)]
  refine congrArg some ?_
  show (if v - a > a - v then v - a else a - v : Int) = (if v ≤ a then a - v else v - a : Int)
  by_cases h1 : v - a > a - v
  · rw [if_pos h1]
    by_cases h2 : v ≤ a
    · rw [if_pos h2]; omega
    · rw [if_neg h2]
  · rw [if_neg h1]
    by_cases h2 : v ≤ a
    · rw [if_pos h2]
    · rw [if_neg h2]; omega
theorem qfar_F {a v : Int} (ha : 0 ≤ a ∧ a ≤ 33554432) (hv : -9223372036854775808 ≤ v ∧ v < 9223372036854775808) : Rc.qfar.F N v a = some (if v ≤ a then a - v else v - a) := by
  unfold Rc.qfar.F
  simp only [br_dec, u64_mod]
  by_cases c : v ≥ a
  · rw [if_pos c]
    refine congrArg some ?_
    show (v % 18446744073709551616 - a % 18446744073709551616) % 18446744073709551616 = (if v ≤ a then a - v else v - a : Int)
    by_cases h2 : v ≤ a
    · rw [if_pos h2]; omega
    · rw [if_neg h2]; omega
  · rw [if_neg c, if_pos (by omega)]
    refine congrArg some ?_
    show (a % 18446744073709551616 - v % 18446744073709551616) % 18446744073709551616 = a - v
    omega

theorem efar_ds {v i : Int} (hi : 0 ≤ i ∧ i ≤ 100) (hv : 0 ≤ v ∧ v ≤ 67108864) : Rc.efar.F N (sz i) v = some (ds v i) := efar_F (sz_range hi.1 hi.2) hv
theorem qfar_ds {v i : Int} (hi : 0 ≤ i ∧ i ≤ 100) (hv : -9223372036854775808 ≤ v ∧ v < 9223372036854775808) : Rc.qfar.F N v (sz i) = some (ds v i) := qfar_F (sz_range hi.1 hi.2) hv
theorem enearest_loop {v : Int} (hv : 0 ≤ v ∧ v ≤ 67108864) (hN : 1000 ≤ N) : ∀ (nn n : Nat) (b i : Int), 0 ≤ b → b < i → i + n = 101 → n < nn → Rc.enearest.loop4 N nn v b i = some (nr v n b i)
  | 0, n, b, i, _, _, _, h => by omega
  | nn + 1, n, b, i, h0, h1, h2, h => by
    unfold Rc.enearest.loop4
    simp only [br_dec, chkI_same]
    rcases n with _ | n
    · rw [if_neg (by omega)]; rfl
    · rw [if_pos (by omega), esize_F hN, obind_of, cl_same (v := i) (by omega) (by omega), efar_ds ⟨by omega, by omega⟩ hv, obind_of, esize_F hN, obind_of, cl_same (v := b) (by omega) (by omega), efar_ds ⟨by omega, by omega⟩ hv, obind_of, i64 (x := i + 1) (by omega) (by omega)]
      simp only [nr]
      by_cases c : ds v i < ds v b
      · rw [if_pos c, if_pos c]; exact enearest_loop hv hN nn n i (i + 1) (by omega) (by omega) (by omega) (by omega)
      · rw [if_neg c, if_neg c]; exact enearest_loop hv hN nn n b (i + 1) (by omega) (by omega) (by omega) (by omega)
theorem enearest_F (v : Int) (hN : 1000 ≤ N) : Rc.enearest.F N v = some (nearest v) := by
  have e : sz (cl 100) = 33554432 := by decide +kernel
  have hc : Rc.clamp.F N v 0 67108864 = some (cut v) := by
    unfold Rc.clamp.F cut
    simp only [br_dec]
    by_cases c1 : v < 0
    · rw [if_neg (by omega), if_pos c1, if_pos c1]
    by_cases c2 : v > 67108864
    · rw [if_neg (by omega), if_neg c1, if_pos c2, if_neg c1, if_pos c2]
    · rw [if_neg (by omega), if_neg c1, if_neg c2, if_neg c1, if_neg c2]
  unfold Rc.enearest.F
  rw [esize_F hN, obind_of, e, i64 (x := 2 * 33554432) (by omega) (by omega), show (2 : Int) * 33554432 = 67108864 from rfl, hc, obind_of, enearest_loop (v := cut v) (by unfold cut; split <;> (try split) <;> omega) hN N 100 0 1 (by omega) (by omega) (by omega) (by omega), obind_of]
  exact congrArg some (nearest_cut v)
theorem rnearest_loop {v : Int} (hv : -9223372036854775808 ≤ v ∧ v < 9223372036854775808) (hN : 1000 ≤ N) : ∀ (nn n : Nat) (b i : Int), 0 ≤ b → b < i → i + n = 101 → n < nn → Rc.rnearest.loop3 N nn v b i = some (nr v n b i)
  | 0, n, b, i, _, _, _, h => by omega
  | nn + 1, n, b, i, h0, h1, h2, h => by
    unfold Rc.rnearest.loop3
    simp only [br_dec, chkI_same]
    rcases n with _ | n
    · rw [if_neg (by omega)]; rfl
    · rw [if_pos (by omega), rsize_F hN, obind_of, cl_same (v := i) (by omega) (by omega), qfar_ds ⟨by omega, by omega⟩ hv, obind_of, rsize_F hN, obind_of, cl_same (v := b) (by omega) (by omega), qfar_ds ⟨by omega, by omega⟩ hv, obind_of, i64 (x := i + 1) (by omega) (by omega)]
      simp only [nr]
      by_cases c : ds v i < ds v b
      · rw [if_pos c, if_pos c]; exact rnearest_loop hv hN nn n i (i + 1) (by omega) (by omega) (by omega) (by omega)
      · rw [if_neg c, if_neg c]; exact rnearest_loop hv hN nn n b (i + 1) (by omega) (by omega) (by omega) (by omega)
theorem rnearest_F {v : Int} (hv : -9223372036854775808 ≤ v ∧ v < 9223372036854775808) (hN : 1000 ≤ N) : Rc.rnearest.F N v = some (nearest v) := by
  unfold Rc.rnearest.F
  rw [rnearest_loop hv hN N 100 0 1 (by omega) (by omega) (by omega) (by omega), obind_of]
  rfl
end
end Go.Pl
