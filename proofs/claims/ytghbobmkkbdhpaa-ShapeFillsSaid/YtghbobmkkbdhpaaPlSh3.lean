/-
  Layer 20: pulses are filled by both books alike; the sum of squares is near.
  Conditions: none.
-/
import Derived.Test.YtghbobmkkbdhpaaPlSh2
import Derived.Test.YtghbobmkkbdhpaaPlPvq4
set_option linter.unusedSimpArgs false
set_option linter.unusedVariables false
namespace Go.Pl
open Go.Eng Go.Proofs

def ok64 : List Int → Bool
  | [] => true
  | x :: r => decide (-64 ≤ x ∧ x ≤ 64) && ok64 r
def ssq : List Int → Int
  | [] => 0
  | x :: r => x * x + ssq r
theorem ok64_iff : ∀ y : List Int, ok64 y = true ↔ ∀ x ∈ y, -64 ≤ x ∧ x ≤ 64
  | [] => by simp [ok64]
  | x :: r => by simp [ok64, ok64_iff r]
theorem sq_nonneg (x : Int) : 0 ≤ x * x := by
  rcases Int.le_total 0 x with h | h
  · exact Int.mul_nonneg h h
  · have := Int.mul_nonneg (show 0 ≤ -x by omega) (show 0 ≤ -x by omega)
    rwa [Int.neg_mul_neg] at this
theorem sq64 {x : Int} (h0 : -64 ≤ x) (h1 : x ≤ 64) : x * x ≤ 4096 := by
  have h2 : 0 ≤ (64 - x) * (64 + x) := Int.mul_nonneg (by omega) (by omega)
  have h3 : (64 - x) * (64 + x) = 4096 - x * x := by grind
  omega
theorem ssq_nonneg : ∀ y : List Int, 0 ≤ ssq y
  | [] => Int.le_refl _
  | x :: r => by have := sq_nonneg x; have := ssq_nonneg r; simp only [ssq]; omega
theorem ssq_le : ∀ y : List Int, ok64 y = true → ssq y ≤ 4096 * y.length
  | [], _ => by simp [ssq]
  | x :: r, h => by
    simp only [ok64, Bool.and_eq_true, decide_eq_true_eq] at h
    have := sq64 h.1.1 h.1.2
    have := ssq_le r h.2
    simp only [ssq, List.length_cons]; omega
theorem sq_pos {x : Int} (h : x ≠ 0) : 0 < x * x := by
  rcases Int.lt_or_gt_of_ne h with c | c
  · have := Int.mul_pos (show 0 < -x by omega) (show 0 < -x by omega)
    rwa [Int.neg_mul_neg] at this
  · exact Int.mul_pos c c
theorem ssq_zero : ∀ y : List Int, ssq y = 0 ↔ ∀ x ∈ y, x = 0
  | [] => by simp [ssq]
  | x :: r => by
    have h1 := sq_nonneg x
    have h2 := ssq_nonneg r
    have ih := ssq_zero r
    simp only [ssq, List.mem_cons, forall_eq_or_imp]
    constructor
    · intro h
      refine ⟨?_, ih.1 (by omega)⟩
      by_cases c : x = 0
      · exact c
      · have := sq_pos c; omega
    · rintro ⟨rfl, h⟩
      rw [ih.2 h]; rfl

/-- The root of a number, rounded down. -/
noncomputable def rt (a : Int) : Int := Classical.epsilon fun r => Root r a
theorem rt_of {r a : Int} (h : Root r a) : rt a = r := (Classical.epsilon_spec (p := fun r => Root r a) ⟨r, h⟩).eq h

def fl (size r t : Int) (y : List Int) : List Int := y.map fun v => size * v * t / r
noncomputable def fillV (size : Int) (y : List Int) : List Int := if ssq y = 0 then List.replicate y.length 0 else fl size (rt (1048576 * ssq y)) (rt (1048576 * y.length)) y
def FillOk (y : List Int) (size : Int) : Prop := 1 ≤ y.length ∧ y.length ≤ 16 ∧ 0 ≤ size ∧ size ≤ 33554432 ∧ ok64 y = true
theorem fillV_len (size : Int) (y : List Int) : (fillV size y).length = y.length := by
  unfold fillV fl
  split <;> simp

theorem root_t {t : Int} {n : Nat} (hn : n ≤ 16) (h : Root t (1048576 * n)) : t ≤ 4096 := by
  rcases Int.lt_or_le 4096 t with c | c
  · have := h.l
    have h2 : 4097 * 4097 ≤ t * t := Int.mul_le_mul c c (by omega) (by omega)
    omega
  · exact c
theorem root_r {r s : Int} (hs : 1 ≤ s) (h : Root r (1048576 * s)) : 1024 ≤ r := by
  rcases Int.lt_or_le r 1024 with c | c
  · have h1 := h.u
    have h3 := h.p
    have h2 : (r + 1) * (r + 1) ≤ 1024 * 1024 := Int.mul_le_mul (by omega) (by omega) (by omega) (by omega)
    omega
  · exact c
theorem fill_mul {size v t : Int} (s0 : 0 ≤ size) (s1 : size ≤ 33554432) (v0 : -64 ≤ v) (v1 : v ≤ 64) (t0 : 0 ≤ t) (t1 : t ≤ 4096) :
    (-2147483648 ≤ size * v ∧ size * v ≤ 2147483648) ∧ (-8796093022208 ≤ size * v * t ∧ size * v * t ≤ 8796093022208) := by
  have a1 : size * v ≤ size * 64 := Int.mul_le_mul_of_nonneg_left v1 s0
  have a2 : size * -64 ≤ size * v := Int.mul_le_mul_of_nonneg_left v0 s0
  have b1 : size * v * t ≤ 2147483648 * t := Int.mul_le_mul_of_nonneg_right (by omega) t0
  have b2 : -2147483648 * t ≤ size * v * t := Int.mul_le_mul_of_nonneg_right (by omega) t0
  omega

section
variable {N : Nat}
theorem sfill_loop5 {y ey : List Int} {es : Int} (hl : y.length ≤ 16) : ∀ (nn : Nat) (r pre : List Int) (s : Int), y = pre ++ r → r.length < nn → 0 ≤ s → s ≤ 4096 * pre.length →
    (ok64 r = true → Rc.sfill.loop5 N nn es ey y.length y 0 s pre.length [] = some (.inl (0, s + ssq r, []))) ∧ (ok64 r = false → Rc.sfill.loop5 N nn es ey y.length y 0 s pre.length [] = some (.inr (1, [])))
  | 0, r, pre, s, _, h, _, _ => by omega
  | nn + 1, r, pre, s, hy, h, s0, s1 => by
    unfold Rc.sfill.loop5
    simp only [br_dec, chkL_same, chkI_same]
    have hlen : y.length = pre.length + r.length := by rw [hy, List.length_append]
    cases r with
    | nil => rw [if_neg (by simp at hlen; omega)]; simp [ssq, ok64]
    | cons x r =>
      simp only [List.length_cons] at hlen h
      have hg : y.getD pre.length 0 = x := by rw [hy, get_at]
      rw [if_pos (by omega), chk_pos (by omega), Int.toNat_natCast, hg]
      simp only [ok64, Bool.and_eq_true, decide_eq_true_eq, Bool.and_eq_false_imp]
      by_cases c1 : x < -64
      · rw [if_pos c1]
        exact ⟨fun hh => by omega, fun _ => rfl⟩
      rw [if_neg c1]
      by_cases c2 : x > 64
      · rw [if_pos c2]
        exact ⟨fun hh => by omega, fun _ => rfl⟩
      have hq := sq64 (x := x) (by omega) (by omega)
      have hq0 := sq_nonneg x
      rw [if_neg c2, i64 (x := x * x) (by omega) (by omega), i64 (x := s + x * x) (by omega) (by omega), i64 (x := (pre.length : Int) + 1) (by omega) (by omega)]
      have ih := sfill_loop5 (ey := ey) (es := es) hl nn r (pre ++ [x]) (s + x * x) (by rw [hy]; simp) (by omega) (by omega) (by simp; omega)
      rw [show (((pre ++ [x]).length : Nat) : Int) = (pre.length : Int) + 1 by simp] at ih
      refine ⟨fun hh => ?_, fun hh => ih.2 (hh (by omega))⟩
      rw [ih.1 hh.2]
      simp only [ssq]
      rw [Int.add_assoc]

theorem sfill_loop16 {y : List Int} {size rr t : Int} (hl : y.length ≤ 16) (s0 : 0 ≤ size) (s1 : size ≤ 33554432) (t0 : 0 ≤ t) (t1 : t ≤ 4096) (r0 : 0 < rr) : ∀ (nn : Nat) (r pre A : List Int), y = pre ++ r → A.length = pre.length → r.length < nn → ok64 r = true →
    Rc.sfill.loop16 N nn size rr t y.length y pre.length (A ++ List.replicate r.length 0) = some (A ++ fl size rr t r)
  | 0, r, pre, A, _, _, h, _ => by omega
  | nn + 1, r, pre, A, hy, hA, h, ho => by
    unfold Rc.sfill.loop16
    simp only [br_dec, chkL_same, chkI_same]
    have hlen : y.length = pre.length + r.length := by rw [hy, List.length_append]
    cases r with
    | nil => rw [if_neg (by simp at hlen; omega)]; simp [fl]
    | cons x r =>
      simp only [List.length_cons] at hlen h
      simp only [ok64, Bool.and_eq_true, decide_eq_true_eq] at ho
      have hg : y.getD pre.length 0 = x := by rw [hy, get_at]
      have hm := fill_mul s0 s1 ho.1.1 ho.1.2 t0 t1
      rw [if_pos (by omega), chk_pos (by omega), Int.toNat_natCast, hg, i64 (x := size * x) (by omega) (by omega), i64 (x := size * x * t) (by omega) (by omega), sdown_F r0 (by omega) (by omega), obind_of, chk_pos (by simp; omega), i64 (x := (pre.length : Int) + 1) (by omega) (by omega)]
      have hs : (A ++ List.replicate (r.length + 1) (0 : Int)).set pre.length (size * x * t / rr) = (A ++ [size * x * t / rr]) ++ List.replicate r.length 0 := by
        rw [List.replicate_succ, ← hA, List.set_append_right _ _ (Nat.le_refl _)]
        simp
      rw [List.length_cons, hs]
      have ih := sfill_loop16 hl s0 s1 t0 t1 r0 nn r (pre ++ [x]) (A ++ [size * x * t / rr]) (by rw [hy]; simp) (by simp; omega) (by omega) ho.2
      rw [show (((pre ++ [x]).length : Nat) : Int) = (pre.length : Int) + 1 by simp] at ih
      rw [ih]
      simp [fl]

theorem rfill_loop3 {y : List Int} (hl : y.length ≤ 16) : ∀ (nn : Nat) (r pre : List Int) (s : Int), y = pre ++ r → r.length < nn → 0 ≤ s → s ≤ 4096 * pre.length → ok64 r = true →
    Rc.rfill.loop3 N nn y s pre.length = some (s + ssq r)
  | 0, r, pre, s, _, h, _, _, _ => by omega
  | nn + 1, r, pre, s, hy, h, s0, s1, ho => by
    unfold Rc.rfill.loop3
    simp only [br_dec, chkL_same]
    have hlen : y.length = pre.length + r.length := by rw [hy, List.length_append]
    cases r with
    | nil => rw [if_neg (by simp at hlen; omega)]; simp [ssq]
    | cons x r =>
      simp only [List.length_cons] at hlen h
      simp only [ok64, Bool.and_eq_true, decide_eq_true_eq] at ho
      have hg : y.getD pre.length 0 = x := by rw [hy, get_at]
      have hq := sq64 (x := x) (by omega) (by omega)
      have hq0 := sq_nonneg x
      rw [if_pos (by omega), chk_pos (by omega), chk_pos (by omega), Int.toNat_natCast, hg, i64 (x := x * x) (by omega) (by omega), i64 (x := s + x * x) (by omega) (by omega), i64 (x := (pre.length : Int) + 1) (by omega) (by omega)]
      have ih := rfill_loop3 hl nn r (pre ++ [x]) (s + x * x) (by rw [hy]; simp) (by omega) (by omega) (by simp; omega) ho.2
      rw [show (((pre ++ [x]).length : Nat) : Int) = (pre.length : Int) + 1 by simp] at ih
      rw [ih]
      simp only [ssq]
      rw [Int.add_assoc]

theorem rfill_loop12 {y : List Int} {size rr t : Int} (hl : y.length ≤ 16) (s0 : 0 ≤ size) (s1 : size ≤ 33554432) (t0 : 0 ≤ t) (t1 : t ≤ 4096) (r0 : 0 < rr) : ∀ (nn : Nat) (r pre A : List Int), y = pre ++ r → A.length = pre.length → r.length < nn → ok64 r = true →
    Rc.rfill.loop12 N nn size rr t y pre.length (A ++ List.replicate r.length 0) = some (A ++ fl size rr t r)
  | 0, r, pre, A, _, _, h, _ => by omega
  | nn + 1, r, pre, A, hy, hA, h, ho => by
    unfold Rc.rfill.loop12
    simp only [br_dec, chkL_same, chkI_same]
    have hlen : y.length = pre.length + r.length := by rw [hy, List.length_append]
    cases r with
    | nil => rw [if_neg (by simp at hlen; omega)]; simp [fl]
    | cons x r =>
      simp only [List.length_cons] at hlen h
      simp only [ok64, Bool.and_eq_true, decide_eq_true_eq] at ho
      have hg : y.getD pre.length 0 = x := by rw [hy, get_at]
      have hm := fill_mul s0 s1 ho.1.1 ho.1.2 t0 t1
      rw [if_pos (by omega), chk_pos (by omega), Int.toNat_natCast, hg, i64 (x := size * x) (by omega) (by omega), i64 (x := size * x * t) (by omega) (by omega), rdown_F r0 (by omega) (by omega), obind_of, chk_pos (by simp; omega), i64 (x := (pre.length : Int) + 1) (by omega) (by omega)]
      have hs : (A ++ List.replicate (r.length + 1) (0 : Int)).set pre.length (size * x * t / rr) = (A ++ [size * x * t / rr]) ++ List.replicate r.length 0 := by
        rw [List.replicate_succ, ← hA, List.set_append_right _ _ (Nat.le_refl _)]
        simp
      rw [List.length_cons, hs]
      have ih := rfill_loop12 hl s0 s1 t0 t1 r0 nn r (pre ++ [x]) (A ++ [size * x * t / rr]) (by rw [hy]; simp) (by simp; omega) (by omega) ho.2
      rw [show (((pre ++ [x]).length : Nat) : Int) = (pre.length : Int) + 1 by simp] at ih
      rw [ih]
      simp [fl]

theorem sfill_both (hN : 200 ≤ N) (size : Int) (y : List Int) : (FillOk y size → Rc.sfill.F N size y = some (0, fillV size y)) ∧ (¬ FillOk y size → Rc.sfill.F N size y = some (1, [])) := by
  unfold Rc.sfill.F FillOk
  simp only [br_dec]
  by_cases c1 : (y.length : Int) < 1
  · rw [if_pos c1]; exact ⟨fun h => by omega, fun _ => rfl⟩
  rw [if_neg c1]
  by_cases c2 : (y.length : Int) > 16
  · rw [if_pos c2]; exact ⟨fun h => by omega, fun _ => rfl⟩
  rw [if_neg c2]
  by_cases c3 : size < 0
  · rw [if_pos c3]; exact ⟨fun h => by omega, fun _ => rfl⟩
  rw [if_neg c3]
  by_cases c4 : size > 33554432
  · rw [if_pos c4]; exact ⟨fun h => by omega, fun _ => rfl⟩
  rw [if_neg c4]
  have hl := sfill_loop5 (N := N) (ey := y) (es := size) (y := y) (by omega) N y [] 0 rfl (by omega) (by omega) (by simp)
  rw [List.length_nil, show ((0 : Nat) : Int) = 0 from rfl] at hl
  by_cases c5 : ok64 y = true
  · have hs0 := ssq_nonneg y
    have hs1 := ssq_le y c5
    rw [hl.1 c5, osum_inl, chk_pos (by omega), Int.zero_add, br_beq]
    refine ⟨fun _ => ?_, fun h => absurd ⟨by omega, by omega, by omega, by omega, c5⟩ h⟩
    simp only [Int.toNat_natCast]
    unfold fillV
    by_cases c6 : ssq y = 0
    · rw [if_pos c6, if_pos c6]
    · obtain ⟨r, e1, g1, _⟩ := fsqrt_F (N := N) (a := 1048576 * ssq y) (by omega) (by omega) (by omega)
      obtain ⟨t, e2, g2, _⟩ := fsqrt_F (N := N) (a := 1048576 * y.length) (by omega) (by omega) (by omega)
      have ht := root_t (by omega) g2
      have hr := root_r (by omega) g1
      have h16 := sfill_loop16 (N := N) (y := y) (size := size) (rr := r) (t := t) (by omega) (by omega) (by omega) g2.p ht (by omega) N y [] [] rfl rfl (by omega) c5
      rw [List.length_nil, List.nil_append, List.nil_append, show ((0 : Nat) : Int) = 0 from rfl] at h16
      rw [if_neg c6, if_neg c6, i64 (by omega) (by omega), e1, obind_of, i64 (by omega) (by omega), e2, obind_of, h16, obind_of, rt_of g1, rt_of g2]
  · rw [hl.2 (by simpa using c5)]
    exact ⟨fun h => absurd h.2.2.2.2 c5, fun _ => rfl⟩

theorem sfill_F (hN : 200 ≤ N) {size : Int} {y : List Int} (h : FillOk y size) : Rc.sfill.F N size y = some (0, fillV size y) := (sfill_both hN size y).1 h
theorem sfill_bad (hN : 200 ≤ N) {size : Int} {y : List Int} (h : ¬ FillOk y size) : Rc.sfill.F N size y = some (1, []) := (sfill_both hN size y).2 h

theorem rfill_F (hN : 200 ≤ N) (size : Int) (y : List Int) (h : FillOk y size) : Rc.rfill.F N size y = some (fillV size y) := by
  obtain ⟨h1, h2, h3, h4, h5⟩ := h
  unfold Rc.rfill.F ltI
  have hl := rfill_loop3 (N := N) (y := y) (by omega) N y [] 0 rfl (by omega) (by omega) (by simp) h5
  rw [List.length_nil, show ((0 : Nat) : Int) = 0 from rfl] at hl
  have hs0 := ssq_nonneg y
  have hs1 := ssq_le y h5
  rw [hl, obind_of, chk_pos (by omega), Int.zero_add, br_beq, show ((2 : Int) ^ min (Int.toNat 20) IntKind.i64.bits) = 1048576 from rfl]
  simp only [Int.toNat_natCast]
  unfold fillV
  by_cases c6 : ssq y = 0
  · rw [if_pos c6, if_pos c6]
  · obtain ⟨r, e1, g1⟩ := rsqrt_F (N := N) (a := 1048576 * ssq y) (by omega) (by omega) (by omega)
    obtain ⟨t, e2, g2⟩ := rsqrt_F (N := N) (a := 1048576 * y.length) (by omega) (by omega) (by omega)
    have ht := root_t (by omega) g2
    have hr := root_r (by omega) g1
    have h16 := rfill_loop12 (N := N) (y := y) (size := size) (rr := r) (t := t) (by omega) (by omega) (by omega) g2.p ht (by omega) N y [] [] rfl rfl (by omega) h5
    rw [List.length_nil, List.nil_append, List.nil_append, show ((0 : Nat) : Int) = 0 from rfl] at h16
    rw [if_neg c6, if_neg c6, i64 (by omega) (by omega), Int.mul_comm (ssq y), e1, obind_of, i64 (by omega) (by omega), Int.mul_comm ((y.length : Nat) : Int), e2, obind_of, h16, obind_of, rt_of g1, rt_of g2]
end

/-! ### The sum of squares -/
theorem fill_one {A r x : Int} (hA : 0 < A) (hr : 0 < r) :
    A * (r * r) * ((x / r) * (x / r)) ≤ (A + 1) * (x * x) + A * A * (r * r) + A * (r * r) ∧ (A - 1) * (x * x) - A * A * (r * r) ≤ A * (r * r) * ((x / r) * (x / r)) := by
  have h1 := Int.emod_nonneg x (show r ≠ 0 by omega)
  have h2 := Int.emod_lt_of_pos x hr
  have h3 := Int.mul_ediv_add_emod x r
  generalize x / r = f at h3 ⊢
  generalize x % r = e at h1 h2 h3
  have hf : A * (r * r) * (f * f) = A * ((r * f) * (r * f)) := by grind
  rw [hf, show r * f = x - e by omega]
  have he : e * e ≤ r * r := Int.mul_le_mul (by omega) (by omega) h1 (by omega)
  have he0 : 0 ≤ e * e := Int.mul_nonneg h1 h1
  have k1 : A * A * (e * e) ≤ A * A * (r * r) := Int.mul_le_mul_of_nonneg_left he (Int.mul_nonneg (by omega) (by omega))
  have k2 : A * (e * e) ≤ A * (r * r) := Int.mul_le_mul_of_nonneg_left he (by omega)
  have k3 : 0 ≤ A * (e * e) := Int.mul_nonneg (by omega) he0
  have s1 := sq_nonneg (x + A * e)
  have s2 := sq_nonneg (x - A * e)
  have x1 : (x + A * e) * (x + A * e) = x * x + 2 * (A * (x * e)) + A * A * (e * e) := by grind
  have x2 : (x - A * e) * (x - A * e) = x * x - 2 * (A * (x * e)) + A * A * (e * e) := by grind
  have x3 : A * ((x - e) * (x - e)) = A * (x * x) - 2 * (A * (x * e)) + A * (e * e) := by grind
  have x4 : (A + 1) * (x * x) = A * (x * x) + x * x := by grind
  have x5 : (A - 1) * (x * x) = A * (x * x) - x * x := by grind
  omega

theorem fill_all {A r t : Int} (hA : 0 < A) (hr : 0 < r) : ∀ y : List Int,
    A * (r * r) * ssq (fl A r t y) ≤ (A + 1) * (A * A * (t * t) * ssq y) + (A * A * (r * r) + A * (r * r)) * y.length ∧ (A - 1) * (A * A * (t * t) * ssq y) - A * A * (r * r) * y.length ≤ A * (r * r) * ssq (fl A r t y)
  | [] => by simp [fl, ssq]
  | v :: y => by
    have ih := fill_all (t := t) hA hr y
    have h := fill_one (x := A * v * t) hA hr
    rw [show fl A r t (v :: y) = (A * v * t / r) :: fl A r t y from rfl]
    simp only [ssq, List.length_cons]
    generalize A * v * t / r = f at h ⊢
    have e1 : A * v * t * (A * v * t) = A * A * (t * t) * (v * v) := by grind
    rw [e1] at h
    have e2 : A * (r * r) * (f * f + ssq (fl A r t y)) = A * (r * r) * (f * f) + A * (r * r) * ssq (fl A r t y) := by grind
    have e3 : (A + 1) * (A * A * (t * t) * (v * v + ssq y)) = (A + 1) * (A * A * (t * t) * (v * v)) + (A + 1) * (A * A * (t * t) * ssq y) := by grind
    have e4 : (A - 1) * (A * A * (t * t) * (v * v + ssq y)) = (A - 1) * (A * A * (t * t) * (v * v)) + (A - 1) * (A * A * (t * t) * ssq y) := by grind
    have e5 : (A * A * (r * r) + A * (r * r)) * ((y.length + 1 : Nat) : Int) = (A * A * (r * r) + A * (r * r)) * (y.length : Int) + (A * A * (r * r) + A * (r * r)) := by
      rw [Int.natCast_add]; grind
    have e6 : A * A * (r * r) * ((y.length + 1 : Nat) : Int) = A * A * (r * r) * (y.length : Int) + A * A * (r * r) := by
      rw [Int.natCast_add]; grind
    omega
end Go.Pl
