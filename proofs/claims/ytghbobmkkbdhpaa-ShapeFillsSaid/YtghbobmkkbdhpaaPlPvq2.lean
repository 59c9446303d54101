/-
  Layer 17: vectors in order: places and vectors undo one another. Nothing of the program here.
  Conditions: none.
-/
import Derived.Test.YtghbobmkkbdhpaaPlPvq
set_option linter.unusedSimpArgs false
set_option linter.unusedVariables false
namespace Go.Pl
open Go.Eng Go.Proofs

/-! ### Where nothing is capped -/
theorem un_down {n k : Nat} (h : cnt (n + 1) (k + 1) < 4294967296) : cnt n (k + 1) < 4294967296 ∧ cnt (n + 1) k < 4294967296 ∧ cnt n k < 4294967296 ∧ cnt (n + 1) (k + 1) = cnt n (k + 1) + cnt (n + 1) k + cnt n k := by
  have hs := cnt_succ n k
  have u1 := cnt_small n (k + 1)
  have u2 := cnt_small n k
  have u3 := cnt_small (n + 1) k
  omega
theorem un_k {n : Nat} : ∀ {k : Nat}, cnt (n + 1) k < 4294967296 → ∀ j, j ≤ k → cnt (n + 1) j < 4294967296
  | 0, h, j, hj => by obtain rfl : j = 0 := by omega
                      exact h
  | k + 1, h, j, hj => by
    rcases Nat.lt_or_ge k j with c | c
    · obtain rfl : j = k + 1 := by omega
      exact h
    · exact un_k (un_down h).2.1 j c
theorem un_n {n k : Nat} (h : cnt (n + 1) k < 4294967296) : cnt n k < 4294967296 := by
  cases k with
  | zero => rw [cnt_zero]; decide
  | succ k => exact (un_down h).1
theorem un_nk {n k : Nat} (h : cnt (n + 1) k < 4294967296) {j : Nat} (hj : j ≤ k) : cnt n j < 4294967296 := un_n (un_k h j hj)

/-- How many stand with a first number of that size. -/
def both (n k s : Nat) : Int := if s = 0 then cnt n k else 2 * cnt n (k - s)
/-- .. with a first number of a lesser size. -/
def bs (n k : Nat) : Nat → Int
  | 0 => 0
  | s + 1 => bs n k s + both n k s
def sm (n : Nat) : Nat → Int
  | 0 => 0
  | k + 1 => sm n k + cnt n k

theorem both_nonneg (n k s : Nat) : 0 ≤ both n k s := by
  unfold both
  have := cnt_small n k
  have := cnt_small n (k - s)
  split <;> omega
theorem bs_nonneg (n k : Nat) : ∀ s, 0 ≤ bs n k s
  | 0 => Int.le_refl _
  | s + 1 => by have := bs_nonneg n k s; have := both_nonneg n k s; simp only [bs]; omega
theorem bs_mono (n k : Nat) {s t : Nat} (h : s ≤ t) : bs n k s ≤ bs n k t := by
  obtain ⟨d, rfl⟩ : ∃ d, t = s + d := ⟨t - s, by omega⟩
  clear h
  induction d with
  | zero => exact Int.le_refl _
  | succ d ih => have := both_nonneg n k (s + d); show _ ≤ bs n k (s + d) + both n k (s + d); omega

theorem sum_un {n : Nat} : ∀ {k : Nat}, cnt (n + 1) k < 4294967296 → cnt (n + 1) k = cnt n k + 2 * sm n k
  | 0, _ => by rw [cnt_zero, cnt_zero]; rfl
  | k + 1, h => by
    obtain ⟨_, h2, _, h4⟩ := un_down h
    have := sum_un h2
    simp only [sm]
    omega
theorem bs_sm (n k : Nat) : ∀ s, 1 ≤ s → s ≤ k + 1 → bs n k s = cnt n k + 2 * (sm n k - sm n (k + 1 - s))
  | 0, h, _ => by omega
  | 1, _, _ => by
    show 0 + both n k 0 = _
    unfold both
    rw [if_pos rfl, show k + 1 - 1 = k by omega]; omega
  | s + 2, _, h => by
    have ih := bs_sm n k (s + 1) (by omega) (by omega)
    show bs n k (s + 1) + both n k (s + 1) = _
    rw [ih]
    unfold both
    rw [if_neg (by omega), show k + 1 - (s + 1) = k - (s + 1) + 1 by omega, show k + 1 - (s + 2) = k - (s + 1) by omega]
    simp only [sm]
    omega
/-- All of them. -/
theorem bs_all {n k : Nat} (h : cnt (n + 1) k < 4294967296) : bs n k (k + 1) = cnt (n + 1) k := by
  rw [bs_sm n k (k + 1) (by omega) (Nat.le_refl _), sum_un h, show k + 1 - (k + 1) = 0 by omega]
  simp only [sm]
  omega

/-! ### Vectors -/
def fnd (n k : Nat) : Nat → Nat → Int → Nat × Int
  | 0, s, i => (s, i)
  | f + 1, s, i => if i ≥ both n k s then fnd n k f (s + 1) (i - both n k s) else (s, i)
def vec : Nat → Nat → Int → List Int
  | 0, _, _ => []
  | n + 1, k, i =>
    if (fnd n k (k + 1) 0 i).1 > 0 ∧ (fnd n k (k + 1) 0 i).2 ≥ cnt n (k - (fnd n k (k + 1) 0 i).1) then
      -((fnd n k (k + 1) 0 i).1 : Int) :: vec n (k - (fnd n k (k + 1) 0 i).1) ((fnd n k (k + 1) 0 i).2 - cnt n (k - (fnd n k (k + 1) 0 i).1))
    else ((fnd n k (k + 1) 0 i).1 : Int) :: vec n (k - (fnd n k (k + 1) 0 i).1) (fnd n k (k + 1) 0 i).2
def sz1 (y : List Int) : Nat := (y.map Int.natAbs).sum
def ix : List Int → Nat → Int
  | [], _ => 0
  | y :: r, k => bs r.length k y.natAbs + (if y < 0 then cnt r.length (k - y.natAbs) else 0) + ix r (k - y.natAbs)

theorem fnd_spec {n k : Nat} : ∀ (f s : Nat) (i : Int), s + f = k + 1 → 0 ≤ i → i + bs n k s < bs n k (k + 1) →
    s ≤ (fnd n k f s i).1 ∧ (fnd n k f s i).1 ≤ k ∧ 0 ≤ (fnd n k f s i).2 ∧ (fnd n k f s i).2 < both n k (fnd n k f s i).1 ∧ (fnd n k f s i).2 + bs n k (fnd n k f s i).1 = i + bs n k s
  | 0, s, i, h, h0, h1 => by
    obtain rfl : s = k + 1 := by omega
    omega
  | f + 1, s, i, h, h0, h1 => by
    simp only [fnd]
    by_cases c : i ≥ both n k s
    · rw [if_pos c]
      have hb : bs n k (s + 1) = bs n k s + both n k s := rfl
      have := fnd_spec (n := n) (k := k) f (s + 1) (i - both n k s) (by omega) (by omega) (by omega)
      omega
    · rw [if_neg c]
      exact ⟨Nat.le_refl _, by omega, h0, by show i < both n k s; omega, rfl⟩
/-- Just one. -/
theorem fnd_eq {n k s : Nat} {i r : Int} (hs : s ≤ k) (h0 : 0 ≤ r) (h1 : r < both n k s) (hi : i = bs n k s + r) (hall : i < bs n k (k + 1)) : fnd n k (k + 1) 0 i = (s, r) := by
  have hbn := bs_nonneg n k s
  obtain ⟨_, a1, a2, a3, a4⟩ := fnd_spec (n := n) (k := k) (k + 1) 0 i (by omega) (by omega) (by show i + 0 < _; omega)
  have z : bs n k 0 = 0 := rfl
  generalize fnd n k (k + 1) 0 i = q at a1 a2 a3 a4
  obtain ⟨t, r'⟩ := q
  simp only at a1 a2 a3 a4
  have ht : t = s := by
    rcases Nat.lt_trichotomy t s with c | c | c
    · have := bs_mono n k (show t + 1 ≤ s from c)
      have e : bs n k (t + 1) = bs n k t + both n k t := rfl
      omega
    · exact c
    · have := bs_mono n k (show s + 1 ≤ t from c)
      have e : bs n k (s + 1) = bs n k s + both n k s := rfl
      omega
  subst ht
  have : r' = r := by omega
  rw [this]

/-- A place's vector, and back. -/
theorem vec_spec : ∀ (n k : Nat) (i : Int), 0 ≤ i → i < cnt n k → cnt n k < 4294967296 → (vec n k i).length = n ∧ sz1 (vec n k i) = k ∧ ix (vec n k i) k = i
  | 0, k, i, h0, h1, _ => by
    have hk : k = 0 ∧ i = 0 := by
      simp only [cnt] at h1
      split at h1 <;> omega
    obtain ⟨rfl, rfl⟩ := hk
    exact ⟨rfl, rfl, rfl⟩
  | n + 1, k, i, h0, h1, hu => by
    have hall := bs_all hu
    obtain ⟨_, a1, a2, a3, a4⟩ := fnd_spec (n := n) (k := k) (k + 1) 0 i (by omega) h0 (by show i + 0 < _; omega)
    have z : bs n k 0 = 0 := rfl
    simp only [vec]
    generalize fnd n k (k + 1) 0 i = q at a1 a2 a3 a4 ⊢
    obtain ⟨s, r⟩ := q
    simp only at a1 a2 a3 a4 ⊢
    have hc := cnt_small n (k - s)
    have hun := un_nk hu (show k - s ≤ k by omega)
    by_cases c : s > 0 ∧ r ≥ cnt n (k - s)
    · rw [if_pos c]
      have hb : both n k s = 2 * cnt n (k - s) := by unfold both; rw [if_neg (by omega)]
      obtain ⟨l1, l2, l3⟩ := vec_spec n (k - s) (r - cnt n (k - s)) (by omega) (by omega) hun
      refine ⟨by simp [l1], ?_, ?_⟩
      · have : sz1 (-(s : Int) :: vec n (k - s) (r - cnt n (k - s))) = s + sz1 (vec n (k - s) (r - cnt n (k - s))) := by simp [sz1]
        omega
      · simp only [ix, l1, Int.natAbs_neg, Int.natAbs_natCast]
        rw [if_pos (by omega), l3]
        omega
    · rw [if_neg c]
      have hb : r < cnt n (k - s) := by
        rcases Nat.eq_zero_or_pos s with d | d
        · subst d
          unfold both at a3
          rw [if_pos rfl] at a3
          exact a3
        · rcases Int.lt_or_le r (cnt n (k - s)) with e | e
          · exact e
          · exact absurd ⟨d, e⟩ c
      obtain ⟨l1, l2, l3⟩ := vec_spec n (k - s) r (by omega) hb hun
      refine ⟨by simp [l1], ?_, ?_⟩
      · have : sz1 ((s : Int) :: vec n (k - s) r) = s + sz1 (vec n (k - s) r) := by simp [sz1]
        omega
      · simp only [ix, l1, Int.natAbs_natCast]
        rw [if_neg (by omega), l3]
        omega

theorem ix_spec : ∀ (y : List Int) (k : Nat), sz1 y = k → cnt y.length k < 4294967296 → 0 ≤ ix y k ∧ ix y k < cnt y.length k ∧ vec y.length k (ix y k) = y
  | [], k, h, _ => by
    obtain rfl : k = 0 := by simpa [sz1] using h.symm
    simp [ix, vec, cnt]
  | y :: r, k, h, hu => by
    have hsz : sz1 (y :: r) = y.natAbs + sz1 r := by simp [sz1]
    simp only [List.length_cons] at hu ⊢
    have hun := un_nk hu (show k - y.natAbs ≤ k by omega)
    have hall := bs_all hu
    obtain ⟨i0, i1, i2⟩ := ix_spec r (k - y.natAbs) (by omega) hun
    have hbn := bs_nonneg r.length k y.natAbs
    have hm := bs_mono r.length k (show y.natAbs + 1 ≤ k + 1 by omega)
    have he : bs r.length k (y.natAbs + 1) = bs r.length k y.natAbs + both r.length k y.natAbs := rfl
    by_cases c : y < 0
    · have hb : both r.length k y.natAbs = 2 * cnt r.length (k - y.natAbs) := by unfold both; rw [if_neg (by omega)]
      have hix : ix (y :: r) k = bs r.length k y.natAbs + (cnt r.length (k - y.natAbs) + ix r (k - y.natAbs)) := by simp only [ix, if_pos c]; omega
      have hf := fnd_eq (n := r.length) (k := k) (s := y.natAbs) (i := ix (y :: r) k) (r := cnt r.length (k - y.natAbs) + ix r (k - y.natAbs)) (by omega) (by omega) (by omega) hix (by omega)
      refine ⟨by omega, by omega, ?_⟩
      simp only [vec, hf]
      rw [if_pos ⟨by omega, by omega⟩, show cnt r.length (k - y.natAbs) + ix r (k - y.natAbs) - cnt r.length (k - y.natAbs) = ix r (k - y.natAbs) by omega, i2]
      congr 1
      omega
    · have hix : ix (y :: r) k = bs r.length k y.natAbs + ix r (k - y.natAbs) := by simp only [ix, if_neg c]; omega
      have hb : cnt r.length (k - y.natAbs) ≤ both r.length k y.natAbs := by
        unfold both
        split
        · rename_i e; rw [e]; exact Int.le_refl _
        · have := cnt_small r.length (k - y.natAbs); omega
      have hf := fnd_eq (n := r.length) (k := k) (s := y.natAbs) (i := ix (y :: r) k) (r := ix r (k - y.natAbs)) (by omega) (by omega) (by omega) hix (by omega)
      refine ⟨by omega, by omega, ?_⟩
      simp only [vec, hf]
      rw [if_neg (fun h => by omega), i2]
      congr 1
      omega

/-! ### The first one, the last one -/
theorem sz1_zeros : ∀ n, sz1 (List.replicate n (0 : Int)) = 0
  | 0 => rfl
  | n + 1 => by have := sz1_zeros n; simp only [sz1, List.replicate_succ, List.map_cons, List.sum_cons] at this ⊢; omega
theorem ix_zeros : ∀ n, ix (List.replicate n (0 : Int)) 0 = 0
  | 0 => rfl
  | n + 1 => by have := ix_zeros n; simp only [List.replicate_succ, ix, Int.natAbs_zero, bs, Nat.sub_zero]; rw [if_neg (by omega), this]; rfl
theorem ix_first (k : Nat) : ∀ n, ix (List.replicate n (0 : Int) ++ [(k : Int)]) k = 0 ∧ sz1 (List.replicate n (0 : Int) ++ [(k : Int)]) = k
  | 0 => by
    simp only [List.replicate_zero, List.nil_append, ix, List.length_nil, Int.natAbs_natCast, sz1, List.map_cons, List.map_nil, List.sum_cons, List.sum_nil]
    rw [if_neg (by omega)]
    refine ⟨?_, by omega⟩
    have : ∀ s, s ≤ k → bs 0 k s = 0 := by
      intro s
      induction s with
      | zero => intro _; rfl
      | succ s ih =>
        intro h
        have h2 := ih (by omega)
        have : both 0 k s = 0 := by
          unfold both cnt
          split
          · rw [if_neg (by omega)]
          · rw [if_neg (by omega)]; rfl
        show bs 0 k s + both 0 k s = 0
        omega
    rw [this k (Nat.le_refl _)]; rfl
  | n + 1 => by
    obtain ⟨h1, h2⟩ := ix_first k n
    simp only [List.replicate_succ, List.cons_append, ix, Int.natAbs_zero, Nat.sub_zero, bs]
    rw [if_neg (by omega), h1]
    refine ⟨rfl, ?_⟩
    simp only [sz1, List.map_cons, List.sum_cons, Int.natAbs_zero] at h2 ⊢
    omega

/-! ### Order -/
def rk (v : Int) : Int := if v > 0 then 2 * v - 1 else -2 * v
/-- One stands ahead of the other. -/
def Ahead (n : Nat) (x y : List Int) : Prop := ∃ p, p < n ∧ (∀ q, q < p → x.getD q 0 = y.getD q 0) ∧ rk (x.getD p 0) < rk (y.getD p 0)

theorem vec_order : ∀ (n k : Nat) (a b : Int), 0 ≤ a → a < b → b < cnt n k → cnt n k < 4294967296 → Ahead n (vec n k a) (vec n k b)
  | 0, k, a, b, h0, h1, h2, _ => by
    simp only [cnt] at h2
    split at h2 <;> omega
  | n + 1, k, a, b, h0, h1, h2, hu => by
    have hall := bs_all hu
    obtain ⟨_, a1, a2, a3, a4⟩ := fnd_spec (n := n) (k := k) (k + 1) 0 a (by omega) h0 (by show a + 0 < _; omega)
    obtain ⟨_, b1, b2, b3, b4⟩ := fnd_spec (n := n) (k := k) (k + 1) 0 b (by omega) (by omega) (by show b + 0 < _; omega)
    have z : bs n k 0 = 0 := rfl
    simp only [vec]
    generalize fnd n k (k + 1) 0 a = qa at a1 a2 a3 a4 ⊢
    generalize fnd n k (k + 1) 0 b = qb at b1 b2 b3 b4 ⊢
    obtain ⟨s, r⟩ := qa
    obtain ⟨t, u⟩ := qb
    simp only at a1 a2 a3 a4 b1 b2 b3 b4 ⊢
    have first : ∀ (x y : Int) (l m : List Int), rk x < rk y → Ahead (n + 1) (x :: l) (y :: m) := fun x y l m h => ⟨0, by omega, fun q hq => by omega, by simpa using h⟩
    have later : ∀ (x : Int) (l m : List Int), Ahead n l m → Ahead (n + 1) (x :: l) (x :: m) := fun x l m ⟨p, h1, h2, h3⟩ =>
      ⟨p + 1, by omega, fun q hq => by
        cases q with
        | zero => rfl
        | succ q => simpa using h2 q (by omega), by simpa using h3⟩
    have hst : s ≤ t := by
      rcases Nat.lt_or_ge t s with c | c
      · have := bs_mono n k (show t + 1 ≤ s from c)
        have e : bs n k (t + 1) = bs n k t + both n k t := rfl
        omega
      · exact c
    rcases Nat.lt_or_ge s t with hlt | hge
    · have e1 : rk (s : Int) < rk (t : Int) := by unfold rk; split <;> split <;> omega
      have e2 : rk (s : Int) < rk (-(t : Int)) := by unfold rk; split <;> split <;> omega
      have e3 : 0 < s → rk (-(s : Int)) < rk (t : Int) := by intro h; unfold rk; split <;> split <;> omega
      have e4 : rk (-(s : Int)) < rk (-(t : Int)) := by unfold rk; split <;> split <;> omega
      split
      · rename_i hc
        split
        · exact first _ _ _ _ e4
        · exact first _ _ _ _ (e3 hc.1)
      · split
        · exact first _ _ _ _ e2
        · exact first _ _ _ _ e1
    · obtain rfl : s = t := by omega
      have hru : r < u := by omega
      have hun := un_nk hu (show k - s ≤ k by omega)
      by_cases ca : s > 0 ∧ r ≥ cnt n (k - s)
      · rw [if_pos ca, if_pos ⟨ca.1, by omega⟩]
        have hb : both n k s = 2 * cnt n (k - s) := by unfold both; rw [if_neg (by omega)]
        exact later _ _ _ (vec_order n (k - s) _ _ (by omega) (by omega) (by omega) hun)
      · rw [if_neg ca]
        by_cases cb : s > 0 ∧ u ≥ cnt n (k - s)
        · rw [if_pos cb]
          exact first _ _ _ _ (by unfold rk; split <;> split <;> omega)
        · rw [if_neg cb]
          have hb : u < cnt n (k - s) := by
            rcases Nat.eq_zero_or_pos s with d | d
            · subst d
              unfold both at b3
              rw [if_pos rfl] at b3
              exact b3
            · rcases Int.lt_or_le u (cnt n (k - s)) with e | e
              · exact e
              · exact absurd ⟨d, e⟩ cb
          exact later _ _ _ (vec_order n (k - s) _ _ (by omega) hru hb hun)

/-- Up to the most pulses nothing is capped. -/
theorem most_tab : ∀ i : Fin 16, (rowC (i.val + 1)).getD (mostT ((i.val : Int) + 1)).toNat 0 < 4294967296 := by decide +kernel
theorem un_most {n k : Nat} (h0 : 1 ≤ n) (h1 : n ≤ 16) (hk : (k : Int) ≤ mostT n) : cnt n k < 4294967296 := by
  have hr := mostT_range n
  have ht := most_tab ⟨n - 1, by omega⟩
  simp only at ht
  rw [show n - 1 + 1 = n by omega, show (((n - 1 : Nat) : Int) + 1) = (n : Int) by omega, (rowC_get n).2 _ (by omega)] at ht
  obtain ⟨m, rfl⟩ : ∃ m, n = m + 1 := ⟨n - 1, by omega⟩
  exact un_k ht k (by omega)
end Go.Pl
