/-
  Layer 20: the sum of squares of what is filled; ShapeFills.
  Conditions: none.
-/
import Derived.Test.YtghbobmkkbdhpaaPlSh3
set_option linter.unusedSimpArgs false
set_option linter.unusedVariables false
namespace Go.Pl
open Go.Eng Go.Proofs

theorem fill_near {A : Int} {y : List Int} (h : FillOk y A) (hs : ssq y ≠ 0) (A0 : 1000 ≤ A) : 5 * (ssq (fillV A y) - A * A * y.length) ≤ A * A ∧ -(A * A) ≤ 5 * (ssq (fillV A y) - A * A * y.length) := by
  obtain ⟨h1, h2, _, h4, h5⟩ := h
  have hs0 := ssq_nonneg y
  have hs1 := ssq_le y h5
  obtain ⟨r, _, g1⟩ := rsqrt_F (N := 200) (a := 1048576 * ssq y) (by omega) (by omega) (by omega)
  obtain ⟨t, _, g2⟩ := rsqrt_F (N := 200) (a := 1048576 * y.length) (by omega) (by omega) (by omega)
  unfold fillV
  rw [if_neg hs, rt_of g1, rt_of g2]
  have ht := root_t h2 g2
  have hr := root_r (by omega) g1
  have hf := fill_all (A := A) (r := r) (t := t) (by omega) (by omega) y
  generalize ssq (fl A r t y) = S at hf ⊢
  have n0 : (1 : Int) ≤ (y.length : Int) := by omega
  have n1 : (y.length : Int) ≤ 16 := by omega
  have a1 := g1.l
  have a2 := g1.u
  have b1 := g2.l
  have b2 := g2.u
  have t0 := g2.p
  generalize (y.length : Int) = n at *
  generalize ssq y = s at *
  have hR : 0 < r * r := Int.mul_pos (by omega) (by omega)
  have hAA : 1000 * A ≤ A * A := Int.mul_le_mul_of_nonneg_right A0 (by omega)
  have hAn : A * A * n ≤ A * A * 16 := Int.mul_le_mul_of_nonneg_left n1 (by omega)
  have hAn1 : A * n ≤ A * 16 := Int.mul_le_mul_of_nonneg_left n1 (by omega)
  -- the product t² s
  have u1 : t * t * s ≤ 1048576 * n * s := Int.mul_le_mul_of_nonneg_right b1 hs0
  have u2 : n * (1048576 * s) ≤ n * ((r + 1) * (r + 1)) := Int.mul_le_mul_of_nonneg_left (by omega) (by omega)
  have u3 : 1048576 * n * s = n * (1048576 * s) := by grind
  have u4 : 500 * ((r + 1) * (r + 1)) ≤ 501 * (r * r) := by
    have : 1001 * r ≤ r * r := Int.mul_le_mul_of_nonneg_right (by omega) (by omega)
    have e : (r + 1) * (r + 1) = r * r + 2 * r + 1 := by grind
    omega
  have u5 : n * (500 * ((r + 1) * (r + 1))) ≤ n * (501 * (r * r)) := Int.mul_le_mul_of_nonneg_left u4 (by omega)
  have u6 : n * (500 * ((r + 1) * (r + 1))) = 500 * (n * ((r + 1) * (r + 1))) := by grind
  have u7 : n * (501 * (r * r)) = 501 * (n * (r * r)) := by grind
  have hX : 500 * (t * t * s) ≤ 501 * (n * (r * r)) := by omega
  have v1 : t * t * (r * r) ≤ t * t * (1048576 * s) := Int.mul_le_mul_of_nonneg_left a1 (Int.mul_nonneg t0 t0)
  have v2 : (1048576 * n - 8192) * (r * r) ≤ t * t * (r * r) := Int.mul_le_mul_of_nonneg_right (by
    have e : (t + 1) * (t + 1) = t * t + 2 * t + 1 := by grind
    omega) (by omega)
  have v3 : t * t * (1048576 * s) = 1048576 * (t * t * s) := by grind
  have v4 : (1048576 * n - 8192) * (r * r) = 1048576 * (n * (r * r)) - 8192 * (r * r) := by grind
  have hY : 128 * (n * (r * r)) - r * r ≤ 128 * (t * t * s) := by omega
  have w0 : A * A * (t * t) * s = A * A * (t * t * s) := by grind
  rw [w0] at hf
  generalize t * t * s = X at *
  generalize hRR : r * r = R at *
  have hAR : 0 < A * R := Int.mul_pos (by omega) hR
  have hA1 : 0 ≤ (A + 1) * (A * A) := Int.mul_nonneg (by omega) (by omega)
  have hA2 : 0 ≤ (A - 1) * (A * A) := Int.mul_nonneg (by omega) (by omega)
  constructor
  · have p1 : (A + 1) * (A * A) * (500 * X) ≤ (A + 1) * (A * A) * (501 * (n * R)) := Int.mul_le_mul_of_nonneg_left hX hA1
    have p2 : (A * R) * (500 * S) ≤ (A * R) * ((A + 1) * n * (501 * A + 500)) := by
      have e1 : (A * R) * (500 * S) = 500 * (A * R * S) := by grind
      have e2 : (A * R) * ((A + 1) * n * (501 * A + 500)) = (A + 1) * (A * A) * (501 * (n * R)) + 500 * ((A * A * R + A * R) * n) := by grind
      have e3 : (A + 1) * (A * A) * (500 * X) = 500 * ((A + 1) * (A * A * X)) := by grind
      have h := hf.1
      omega
    have p3 := Int.le_of_mul_le_mul_left p2 hAR
    have e4 : (A + 1) * n * (501 * A + 500) = 501 * (A * A * n) + 1001 * (A * n) + 500 * n := by grind
    omega
  · have p1 : (A - 1) * (A * A) * (128 * (n * R) - R) ≤ (A - 1) * (A * A) * (128 * X) := Int.mul_le_mul_of_nonneg_left hY hA2
    have p2 : (A * R) * ((A - 1) * A * (128 * n - 1) - 128 * (A * n)) ≤ (A * R) * (128 * S) := by
      have e1 : (A * R) * (128 * S) = 128 * (A * R * S) := by grind
      have e2 : (A * R) * ((A - 1) * A * (128 * n - 1) - 128 * (A * n)) = (A - 1) * (A * A) * (128 * (n * R) - R) - 128 * (A * A * R * n) := by grind
      have e3 : (A - 1) * (A * A) * (128 * X) = 128 * ((A - 1) * (A * A * X)) := by grind
      have h := hf.2
      omega
    have p3 := Int.le_of_mul_le_mul_left p2 hAR
    have e4 : (A - 1) * A * (128 * n - 1) = 128 * (A * A * n) - A * A - 128 * (A * n) + A := by grind
    omega

def anz : List Int → Bool
  | [] => false
  | x :: r => x != 0 || anz r
theorem anz_iff : ∀ y : List Int, anz y = true ↔ ssq y ≠ 0
  | [] => by simp [anz, ssq]
  | x :: r => by
    have ih := anz_iff r
    have h1 := sq_nonneg x
    have h2 := ssq_nonneg r
    simp only [anz, ssq, Bool.or_eq_true, bne_iff_ne]
    by_cases c : x = 0
    · subst c; simp [ih]
    · have := sq_pos c
      exact ⟨fun _ => by omega, fun _ => Or.inl c⟩

section
variable {N : Nat}
theorem fills_loop9 {y ey : List Int} {es : Int} (hl : y.length ≤ 40) : ∀ (nn : Nat) (r pre : List Int) (m s : Bool), y = pre ++ r → r.length < nn →
    Rc.shapeFills.loop9 N ey es nn y pre.length m s = some (m && ok64 r, s || anz r)
  | 0, r, pre, m, s, _, h => by omega
  | nn + 1, r, pre, m, s, hy, h => by
    unfold Rc.shapeFills.loop9
    simp only [br_dec, chkL_same]
    simp only [br_if]
    have hlen : y.length = pre.length + r.length := by rw [hy, List.length_append]
    cases r with
    | nil => rw [if_neg (by simp at hlen; omega)]; simp [anz, ok64]
    | cons x r =>
      simp only [List.length_cons] at hlen h
      have hg : y.getD pre.length 0 = x := by rw [hy, get_at]
      have ih := fun m s => fills_loop9 (ey := ey) (es := es) hl nn r (pre ++ [x]) m s (by rw [hy]; simp) (by omega)
      simp only [show (((pre ++ [x]).length : Nat) : Int) = (pre.length : Int) + 1 by simp] at ih
      have hc : (0 : Int) ≤ (pre.length : Int) ∧ (pre.length : Int) < (y.length : Int) := by omega
      rw [if_pos (by omega)]
      simp only [chk_pos hc, Int.toNat_natCast, hg, i64 (x := (pre.length : Int) + 1) (by omega) (by omega), ih, ok64, anz]
      cases m <;> cases s <;> simp
      · by_cases c1 : -64 ≤ x <;> simp [c1]
      · by_cases c1 : -64 ≤ x <;> simp [c1]

theorem fills_loop21 {l ey : List Int} {es : Int} (hl : l.length ≤ 40) : ∀ (nn : Nat) (r pre : List Int) (s : Int), l = pre ++ r → r.length < nn → 0 ≤ s → s + ssq r ≤ 1152921504606846976 →
    Rc.shapeFills.loop21 N ey es nn l s pre.length = some (s + ssq r)
  | 0, r, pre, s, _, h, _, _ => by omega
  | nn + 1, r, pre, s, hy, h, s0, s1 => by
    unfold Rc.shapeFills.loop21
    simp only [br_dec, chkL_same]
    have hlen : l.length = pre.length + r.length := by rw [hy, List.length_append]
    cases r with
    | nil => rw [if_neg (by simp at hlen; omega)]; simp [ssq]
    | cons x r =>
      simp only [List.length_cons] at hlen h
      simp only [ssq] at s1
      have hg : l.getD pre.length 0 = x := by rw [hy, get_at]
      have hq0 := sq_nonneg x
      have hr0 := ssq_nonneg r
      rw [if_pos (by omega), chk_pos (by omega), chk_pos (by omega), Int.toNat_natCast, hg, i64 (x := x * x) (by omega) (by omega), i64 (x := s + x * x) (by omega) (by omega), i64 (x := (pre.length : Int) + 1) (by omega) (by omega)]
      have ih := fills_loop21 (ey := ey) (es := es) hl nn r (pre ++ [x]) (s + x * x) (by rw [hy]; simp) (by omega) (by omega) (by omega)
      rw [show (((pre ++ [x]).length : Nat) : Int) = (pre.length : Int) + 1 by simp] at ih
      rw [ih]
      simp only [ssq]
      rw [Int.add_assoc]
end

theorem shapeFills_pure (y : List Int) (size : Int) : ∃ N, Rc.shapeFills.F N y size = some true := by
  refine ⟨30000, ?_⟩
  unfold Rc.shapeFills.F
  rw [awake20_F (by omega), obind_of]
  simp only [br_not, if_true, br_dec, br_beq, br_bne, List.nil_append]
  by_cases c0 : (y.length : Int) > 40
  · rw [if_pos c0]
  rw [if_neg c0, chk_pos (by simp; omega)]
  have h9 := fun m => fills_loop9 (N := 30000) (ey := y) (es := size) (y := y) (by omega) 30000 y [] m false rfl (by omega)
  simp only [List.length_nil, show ((0 : Nat) : Int) = 0 from rfl] at h9
  by_cases h : FillOk y size
  · have h' := h
    obtain ⟨h1, h2, h3, h4, h5⟩ := h'
    rw [sfill_F (by omega) h, obind_of, if_pos (by omega), if_pos (by omega), if_pos (by omega), h9, obind_of, decide_eq_true h4, h5]
    simp only [Bool.true_and, Bool.false_or, if_true]
    rw [rfill_F (by omega) size y h, obind_of, same20_F _ _ (by rw [fillV_len]; omega) (by rw [fillV_len]; omega), obind_of, decide_eq_true rfl, if_pos rfl]
    by_cases c1 : anz y = true
    · rw [if_pos c1]
      by_cases c2 : size < 1000
      · rw [if_pos c2]
      rw [if_neg c2]
      by_cases c3 : size > 16777216
      · rw [if_pos c3]
      rw [if_neg c3]
      have hn := fill_near h ((anz_iff y).1 c1) (by omega)
      have hq : size * size ≤ 16777216 * 16777216 := Int.mul_le_mul (by omega) (by omega) (by omega) (by omega)
      have hq0 := sq_nonneg size
      have hqn : size * size * y.length ≤ size * size * 16 := Int.mul_le_mul_of_nonneg_left (by omega) hq0
      have hqn0 : 0 ≤ size * size * y.length := Int.mul_nonneg hq0 (by omega)
      have hS0 := ssq_nonneg (fillV size y)
      have h21 := fills_loop21 (N := 30000) (ey := y) (es := size) (l := fillV size y) (by rw [fillV_len]; omega) 30000 (fillV size y) [] 0 rfl (by rw [fillV_len]; omega) (by omega) (by omega)
      rw [List.length_nil, show ((0 : Nat) : Int) = 0 from rfl] at h21
      rw [h21, obind_of, Int.zero_add]
      have e1 : (0 - size) * size = -(size * size) := by grind
      rw [i64 (x := size * size) (by omega) (by omega), i64 (x := 0 - size) (by omega) (by omega), e1, i64 (x := -(size * size)) (by omega) (by omega), Int.neg_tdiv, tdiv_ediv hq0]
      rw [i64 (x := size * size * (y.length : Int)) (by omega) (by omega)]
      generalize size * size = q at *
      rw [i64 (x := q / 5) (by omega) (by omega), i64 (x := -(q / 5)) (by omega) (by omega), i64 (x := ssq (fillV size y) - q * (y.length : Int)) (by omega) (by omega), if_pos (by omega), decide_eq_true (by omega)]
    · rw [if_neg c1]
  · rw [sfill_bad (by omega) h, obind_of]
    have hf : ∀ m : Bool, (m = true → ok64 y = false) → (m && ok64 y) = false := fun m hm => by cases m <;> simp_all
    by_cases d1 : (y.length : Int) ≥ 1
    · rw [if_pos d1]
      by_cases d2 : (y.length : Int) ≤ 16
      · rw [if_pos d2]
        by_cases d3 : size ≥ 0
        · rw [if_pos d3, h9, obind_of, hf _ (fun hd => by
            have : ¬ ok64 y = true := fun h5 => h ⟨by omega, by omega, by omega, of_decide_eq_true hd, h5⟩
            simpa using this)]
          simp
        · rw [if_neg d3, h9, obind_of]
          simp
      · rw [if_neg d2, h9, obind_of]
        simp
    · rw [if_neg d1, h9, obind_of]
      simp
end Go.Pl
