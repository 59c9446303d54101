/-
  Chapter 4 in plain words: the bytes that are told at the end hold the code and the bits for the end.
  Conditions: none.
-/
import Derived.Test.YtlbdcahecabfkaaPlE
set_option linter.unusedSimpArgs false
set_option linter.unusedVariables false
namespace Go.Pl
open Go.Eng
theorem emod_two_mul {D : Int} (hD : 0 < D) (y : Int) : y % (D * 2) = y % D + (y / D % 2) * D := by
  have h1 := Int.mul_ediv_add_emod y D
  have h2 := Int.emod_nonneg y (show D ≠ 0 by omega)
  have h3 := Int.emod_lt_of_pos y hD
  have h4 : y / D = 2 * (y / D / 2) + y / D % 2 := by omega
  have h5 : y = D * 2 * (y / D / 2) + (y % D + (y / D % 2) * D) := by
    have : D * (y / D) = D * 2 * (y / D / 2) + (y / D % 2) * D := by
      rw [Int.mul_assoc, Int.mul_comm (y / D % 2), ← Int.mul_add, ← h4]
    omega
  have h6 : y / D % 2 = 0 ∨ y / D % 2 = 1 := by omega
  have h7 : 0 ≤ y % D + (y / D % 2) * D ∧ y % D + (y / D % 2) * D < D * 2 := by
    rcases h6 with h6 | h6 <;> rw [h6] <;> omega
  have h8 : y % (D * 2) = (D * 2 * (y / D / 2) + (y % D + (y / D % 2) * D)) % (D * 2) := congrArg (· % (D * 2)) h5
  rw [h8, Int.add_comm, Int.add_mul_emod_self_left]
  exact Int.emod_eq_of_lt h7.1 h7.2
theorem tb_get : ∀ (k : Nat) (n : Int) (i : Nat), i < k → (tb k n).getD i 0 = n / 256 ^ (k - 1 - i) % 256
  | 0, n, i, h => by omega
  | k + 1, n, i, h => by
    simp only [tb]
    rw [List.getD_eq_getElem?_getD]
    by_cases hi : i < k
    · rw [List.getElem?_append_left (by rw [tb_len]; exact hi), ← List.getD_eq_getElem?_getD, tb_get k _ i hi, show k + 1 - 1 - i = (k - 1 - i) + 1 by omega, Int.pow_succ, Int.mul_comm,
        Int.ediv_ediv_of_nonneg (by omega)]
    · have : i = k := by omega
      subst this
      rw [List.getElem?_append_right (by rw [tb_len]; omega), tb_len]
      simp
theorem tb_split (a : Nat) : ∀ (b : Nat) (n : Int), tb (a + b) n = tb a (n / 256 ^ b) ++ tb b n
  | 0, n => by simp [tb]
  | b + 1, n => by
    rw [← Nat.add_assoc]
    simp only [tb]
    rw [tb_split a b, List.append_assoc, Int.ediv_ediv_of_nonneg (by omega), Int.pow_succ, Int.mul_comm 256]
theorem tb_take {n K : Nat} (h : n ≤ K) (A : Int) : (tb K A).take n = tb n (A / 256 ^ (K - n)) := by
  have := tb_split n (K - n) A
  rw [show n + (K - n) = K by omega] at this
  rw [this, List.take_left' (tb_len _ _)]
theorem tb_drop {n K : Nat} (h : n ≤ K) (A : Int) : (tb K A).drop n = tb (K - n) A := by
  have := tb_split n (K - n) A
  rw [show n + (K - n) = K by omega] at this
  rw [this, List.drop_left' (tb_len _ _)]
theorem tb_zeros : ∀ (m : Nat) (A : Int), A % 256 ^ m = 0 → tb m A = zeros m
  | 0, _, _ => rfl
  | m + 1, A, h => by
    have hp := p256pos m
    obtain ⟨q, hq⟩ := Int.dvd_of_emod_eq_zero h
    rw [Int.pow_succ] at hq
    have e1 : A = 256 * (256 ^ m * q) := by rw [hq, Int.mul_comm (256 ^ m), Int.mul_assoc]
    have h1 : A % 256 = 0 := by omega
    have h2 : A / 256 = 256 ^ m * q := by omega
    simp only [tb]
    rw [tb_zeros m (A / 256) (by rw [h2]; exact Int.mul_emod_right _ _), h1]
    simp [zeros, List.replicate_succ']
theorem tb_some : ∀ (m : Nat) (A : Int), A % 256 ^ m ≠ 0 → ∃ x ∈ tb m A, x ≠ 0
  | 0, A, h => by simp at h
  | m + 1, A, h => by
    have hp := p256pos m
    simp only [tb]
    by_cases h1 : A % 256 = 0
    · have : A / 256 % 256 ^ m ≠ 0 := by
        intro h2
        apply h
        obtain ⟨q, hq⟩ := Int.dvd_of_emod_eq_zero h2
        have : A = 256 ^ (m + 1) * q := by
          rw [Int.pow_succ, Int.mul_comm (256 ^ m), Int.mul_assoc, ← hq]
          omega
        rw [this]
        exact Int.mul_emod_right _ _
      obtain ⟨x, hx, hx0⟩ := tb_some m _ this
      exact ⟨x, by simp [hx], hx0⟩
    · exact ⟨A % 256, by simp, h1⟩
theorem eb_tb {k j : Nat} (h : j < k) (n : Int) : eb (tb k n) j = n / 256 ^ j % 256 := by
  unfold eb
  rw [tb_len, if_pos h, tb_get k n _ (by omega)]
  congr 3
  omega
theorem byte_bit (y : Int) {r : Nat} (h : r < 8) : y % 256 / 2 ^ r % 2 = y / 2 ^ r % 2 := by
  have : r = 0 ∨ r = 1 ∨ r = 2 ∨ r = 3 ∨ r = 4 ∨ r = 5 ∨ r = 6 ∨ r = 7 := by omega
  have e2 : (2 : Int) ^ 2 = 4 := rfl
  have e3 : (2 : Int) ^ 3 = 8 := rfl
  have e4 : (2 : Int) ^ 4 = 16 := rfl
  have e5 : (2 : Int) ^ 5 = 32 := rfl
  have e6 : (2 : Int) ^ 6 = 64 := rfl
  have e7 : (2 : Int) ^ 7 = 128 := rfl
  rcases this with rfl | rfl | rfl | rfl | rfl | rfl | rfl | rfl
  · simp only [Int.pow_zero]; omega
  · simp only [Int.pow_succ, Int.pow_zero]; omega
  · rw [e2]; omega
  · rw [e3]; omega
  · rw [e4]; omega
  · rw [e5]; omega
  · rw [e6]; omega
  · rw [e7]; omega
theorem pow_split (p : Nat) : (2 : Int) ^ p = 256 ^ (p / 8) * 2 ^ (p % 8) := by
  rw [p256_2, ← Int.pow_add]
  congr 1
  omega
theorem bitE_tb {k p : Nat} (h : p < 8 * k) (n : Int) : bitE (tb k n) p = n / 2 ^ p % 2 := by
  unfold bitE
  rw [eb_tb (by omega), byte_bit _ (by omega), pow_split p, Int.ediv_ediv_of_nonneg (by have := p256pos (p / 8); omega)]
theorem bsum_tb {k P : Nat} (X : Int) : ∀ n, P + n ≤ 8 * k → bsum (tb k X) P n = X / 2 ^ P % 2 ^ n
  | 0, _ => by simp [bsum]
  | n + 1, h => by
    simp only [bsum]
    rw [bsum_tb X n (by omega), bitE_tb (by omega), Int.pow_succ, emod_two_mul (p2pos n), Int.pow_add, Int.ediv_ediv_of_nonneg (by have := p2pos P; omega)]
structure E.Fit (b : List Int) (e : E) : Prop where
  i : e.In b
  s : bsum b 0 e.r = e.raw
theorem E.bt_fit {b : List Int} {e : E} (h : e.Ok) {v : Int} {n : Nat} (v0 : 0 ≤ v) (v1 : v < 2 ^ n) (hf : (e.bt v n).Fit b) : e.Fit b ∧ bsum b e.r n = v := by
  obtain ⟨hi, hs⟩ := hf
  simp only [E.bt] at hs
  rw [bsum_split, Nat.zero_add] at hs
  obtain ⟨r0, r1⟩ := bsum_range b 0 e.r
  have hp := p2pos e.r
  have w0 := h.w0
  have w1 := h.w1
  have e1 : bsum b 0 e.r = e.raw := by
    have a1 : (bsum b 0 e.r + 2 ^ e.r * bsum b e.r n) % 2 ^ e.r = bsum b 0 e.r := by rw [Int.add_mul_emod_self_left]; exact Int.emod_eq_of_lt r0 r1
    have a2 : (e.raw + v * 2 ^ e.r) % 2 ^ e.r = e.raw := by rw [Int.add_mul_emod_self_right]; exact Int.emod_eq_of_lt w0 w1
    rw [hs, a2] at a1
    exact a1.symm
  refine ⟨⟨hi, e1⟩, ?_⟩
  have : 2 ^ e.r * bsum b e.r n = 2 ^ e.r * v := by rw [Int.mul_comm _ v]; omega
  exact Int.eq_of_mul_eq_mul_left (by omega) this
theorem E.tk0_same (e : E) (fl fh ft : Int) : (e.tk0 fl fh ft).r = e.r ∧ (e.tk0 fl fh ft).raw = e.raw ∧ (e.tk0 fl fh ft).k = e.k := by unfold E.tk0; split <;> simp
theorem E.f0_same (e : E) (v : Bool) (n : Nat) : (e.f0 v n).r = e.r ∧ (e.f0 v n).raw = e.raw ∧ (e.f0 v n).k = e.k := by unfold E.f0; split <;> simp
theorem E.on_same (e : E) : e.on.r = e.r ∧ e.on.raw = e.raw ∧ e.k ≤ e.on.k ∧ e.on.k ≤ e.k + 4 := E.norm_same 4 e
theorem E.tk_same (e : E) (fl fh ft : Int) : (e.tk fl fh ft).r = e.r ∧ (e.tk fl fh ft).raw = e.raw ∧ e.k ≤ (e.tk fl fh ft).k ∧ (e.tk fl fh ft).k ≤ e.k + 4 := by
  have h1 := E.on_same (e.tk0 fl fh ft)
  have h2 := E.tk0_same e fl fh ft
  unfold E.tk
  rw [h2.1, h2.2.1, h2.2.2] at h1
  exact h1
theorem E.fl_same (e : E) (v : Bool) (n : Nat) : (e.fl v n).r = e.r ∧ (e.fl v n).raw = e.raw ∧ e.k ≤ (e.fl v n).k ∧ (e.fl v n).k ≤ e.k + 4 := by
  have h1 := E.on_same (e.f0 v n)
  have h2 := E.f0_same e v n
  unfold E.fl
  rw [h2.1, h2.2.1, h2.2.2] at h1
  exact h1
theorem E.tk_fit {b : List Int} (hb : Bytes b) {e : E} (h : e.Ok) {fl fh ft : Int} (p : Place fl fh ft) (hf : (e.tk fl fh ft).Fit b) : e.Fit b := by
  obtain ⟨h1, h2, _⟩ := E.tk_same e fl fh ft
  exact ⟨E.tk_in hb h p hf.i, by have := hf.s; rwa [h1, h2] at this⟩
theorem E.fl_fit {b : List Int} (hb : Bytes b) {e : E} (h : e.Ok) {v : Bool} {n : Nat} (n0 : 1 ≤ n) (n1 : n ≤ 15) (hf : (e.fl v n).Fit b) : e.Fit b := by
  obtain ⟨h1, h2, _⟩ := E.fl_same e v n
  exact ⟨E.fl_in hb h n0 n1 hf.i, by have := hf.s; rwa [h1, h2] at this⟩
def E.top (e : E) (n : Nat) : Int :=
  if e.k + 4 ≤ n then 2 * e.low * 256 ^ (n - (e.k + 4)) else 2 * e.low / 256 ^ (e.k + 4 - n) + (if 2 * e.low % 256 ^ (e.k + 4 - n) = 0 then 0 else 1)
def E.mid (e : E) (n : Nat) : Int := e.top n - e.top n % 2 ^ e.r + e.raw
def E.out (e : E) (n : Nat) : Int := if e.mid n < e.top n then e.mid n + 2 ^ e.r else e.mid n
theorem E.out_facts {e : E} (h : e.Ok) (n : Nat) : e.top n ≤ e.out n ∧ e.out n < e.top n + 2 ^ e.r ∧ e.out n % 2 ^ e.r = e.raw ∧ (0 ≤ e.top n → 0 ≤ e.mid n) := by
  have hp := p2pos e.r
  have w0 := h.w0
  have w1 := h.w1
  have m0 := Int.emod_nonneg (e.top n) (show (2 : Int) ^ e.r ≠ 0 by omega)
  have m1 := Int.emod_lt_of_pos (e.top n) hp
  have hm : e.mid n % 2 ^ e.r = e.raw := by
    unfold E.mid
    have := Int.mul_ediv_add_emod (e.top n) (2 ^ e.r)
    rw [show e.top n - e.top n % 2 ^ e.r + e.raw = e.raw + 2 ^ e.r * (e.top n / 2 ^ e.r) by omega, Int.add_mul_emod_self_left]
    exact Int.emod_eq_of_lt w0 w1
  have hmid : e.mid n = e.top n - e.top n % 2 ^ e.r + e.raw := rfl
  refine ⟨?_, ?_, ?_, fun h0 => ?_⟩
  · unfold E.out; split <;> omega
  · unfold E.out; split <;> omega
  · unfold E.out; split
    · rw [Int.add_emod_right]; exact hm
    · exact hm
  · have := Int.mul_ediv_add_emod (e.top n) (2 ^ e.r)
    have h3 : 0 ≤ 2 ^ e.r * (e.top n / 2 ^ e.r) := Int.mul_nonneg (by omega) (Int.ediv_nonneg h0 (by omega))
    omega
theorem tell_pow {e : E} (h : e.Ok) {n : Nat} (ht : e.tell ≤ 8 * (n : Int)) : 33 + 8 * e.k + e.r ≤ 8 * n + 32 ∧ (2 : Int) ^ (33 + 8 * e.k + e.r - 8 * n) ≤ 2 * e.rng := by
  obtain ⟨k, k1, k2, k3⟩ := bl_spec h.r0
  have hk : k ≤ 31 := by
    rcases Nat.lt_or_ge 31 k with hk | hk
    · have := p2le (a := 32) (b := k) (by omega)
      have e32 : (2 : Int) ^ 32 = 4294967296 := rfl
      have := h.r1
      omega
    · exact hk
  unfold E.tell E.count at ht
  rw [k1] at ht
  refine ⟨by omega, ?_⟩
  have := p2le (a := 33 + 8 * e.k + e.r - 8 * n) (b := k + 1) (by omega)
  rw [Int.pow_succ] at this
  omega
theorem E.out_fit {e : E} (h : e.Ok) {n : Nat} (ht : e.tell ≤ 8 * (n : Int)) : e.r ≤ 8 * n ∧ 0 ≤ e.top n ∧ 0 ≤ e.out n ∧ e.out n < 256 ^ n ∧ e.Fit (tb n (e.out n)) := by
  obtain ⟨t1, t2⟩ := tell_pow h ht
  obtain ⟨o1, o2, o3, _⟩ := E.out_facts h n
  have hr := h.r0
  have hl0 := h.l0
  have hl1 := h.l1
  have hpr := p2pos e.r
  have hrn : e.r ≤ 8 * n := by omega
  have hbl : e.tell > e.r := by
    have := bl_le (x := e.rng) (n := 32) (by show e.rng < 4294967296; have := h.r1; omega)
    unfold E.tell E.count
    omega
  have key : 0 ≤ e.top n ∧ e.out n < 256 ^ n ∧ e.In (tb n (e.out n)) := by
    by_cases hc : e.k + 4 ≤ n
    · have etop : e.top n = 2 * e.low * 256 ^ (n - (e.k + 4)) := by unfold E.top; rw [if_pos hc]
      have hD := p256pos (n - (e.k + 4))
      have hpow : (256 : Int) ^ n = 256 ^ (e.k + 4) * 256 ^ (n - (e.k + 4)) := by rw [← Int.pow_add]; congr 1; omega
      have hrD : (2 : Int) ^ e.r ≤ e.rng * 256 ^ (n - (e.k + 4)) := by
        have h2 : (2 : Int) ^ (e.r + 1) ≤ 2 ^ (33 + 8 * e.k + e.r - 8 * n) * 256 ^ (n - (e.k + 4)) := by
          rw [p256_2, ← Int.pow_add]
          exact p2le (by omega)
        have h3 : (2 : Int) ^ (33 + 8 * e.k + e.r - 8 * n) * 256 ^ (n - (e.k + 4)) ≤ 2 * e.rng * 256 ^ (n - (e.k + 4)) := Int.mul_le_mul_of_nonneg_right t2 (by omega)
        rw [Int.pow_succ] at h2
        rw [Int.mul_assoc] at h3
        omega
      generalize eD : (256 : Int) ^ (n - (e.k + 4)) = D at *
      have hup : e.out n < 2 * (e.low + e.rng) * D := by
        have : 2 * (e.low + e.rng) * D = 2 * e.low * D + 2 * (e.rng * D) := by rw [Int.mul_add, Int.add_mul, Int.mul_assoc 2 e.rng]
        omega
      have hcap : 2 * (e.low + e.rng) * D ≤ 256 ^ n := by
        rw [hpow]
        refine Int.mul_le_mul_of_nonneg_right ?_ (by omega)
        rw [Int.pow_add, show (256 : Int) ^ 4 = 4294967296 from rfl]
        omega
      have t0 : 0 ≤ e.top n := by rw [etop]; exact Int.mul_nonneg (by omega) (by omega)
      have hX0 : 0 ≤ e.out n := by omega
      have hX1 : e.out n < 256 ^ n := by omega
      have hcp : cp (tb n (e.out n)) (e.k + 4) = e.out n / 256 ^ (n - (e.k + 4)) := by
        have := cp_less (tb_bytes n (e.out n)) (e.k + 4) (n - (e.k + 4))
        rw [show e.k + 4 + (n - (e.k + 4)) = n by omega, cp_tb n _ hX0 hX1] at this
        exact this
      refine ⟨t0, hX1, ?_⟩
      have etop2 : 2 * e.low * 256 ^ (n - (e.k + 4)) ≤ e.out n := by rw [eD]; omega
      have hup2 : e.out n < 2 * (e.low + e.rng) * 256 ^ (n - (e.k + 4)) := by rw [eD]; omega
      have q1 : 2 * e.low ≤ e.out n / 256 ^ (n - (e.k + 4)) := by rw [Int.le_ediv_iff_mul_le (p256pos _)]; exact etop2
      have q2 : e.out n / 256 ^ (n - (e.k + 4)) < 2 * (e.low + e.rng) := by rw [Int.ediv_lt_iff_lt_mul (p256pos _)]; exact hup2
      unfold E.In
      rw [hcp]
      generalize e.out n / 256 ^ (n - (e.k + 4)) = z at *
      omega
    · have hD := p256pos (e.k + 4 - n)
      have hpow : (256 : Int) ^ (e.k + 4) = 256 ^ n * 256 ^ (e.k + 4 - n) := by rw [← Int.pow_add]; congr 1; omega
      have hrD : (2 : Int) ^ e.r * 256 ^ (e.k + 4 - n) ≤ e.rng := by
        have h2 : (2 : Int) ^ (33 + 8 * e.k + e.r - 8 * n) = 2 ^ e.r * 256 ^ (e.k + 4 - n) * 2 := by
          rw [p256_2, ← Int.pow_add, ← Int.pow_succ]
          congr 1
          omega
        rw [h2] at t2
        omega
      have hdiv := Int.mul_ediv_add_emod (2 * e.low) (256 ^ (e.k + 4 - n))
      have hm0 := Int.emod_nonneg (2 * e.low) (show (256 : Int) ^ (e.k + 4 - n) ≠ 0 by omega)
      have hm1 := Int.emod_lt_of_pos (2 * e.low) hD
      have hq0 : 0 ≤ 2 * e.low / 256 ^ (e.k + 4 - n) := Int.ediv_nonneg (by omega) (by omega)
      have etop : e.top n = 2 * e.low / 256 ^ (e.k + 4 - n) + (if 2 * e.low % 256 ^ (e.k + 4 - n) = 0 then 0 else 1) := by unfold E.top; rw [if_neg hc]
      have hcap : 2 * e.low + 2 * e.rng ≤ 256 ^ (e.k + 4) := by
        rw [Int.pow_add, show (256 : Int) ^ 4 = 4294967296 from rfl]
        omega
      have hcp : cp (tb n (e.out n)) (e.k + 4) = cp (tb n (e.out n)) n * 256 ^ (e.k + 4 - n) := by
        have := cp_more (b := tb n (e.out n)) (e.k + 4 - n)
        rw [tb_len, show n + (e.k + 4 - n) = e.k + 4 by omega] at this
        exact this
      generalize hDe : (256 : Int) ^ (e.k + 4 - n) = D at *
      have t0 : 0 ≤ e.top n := by rw [etop]; split <;> omega
      have hA : 2 * e.low ≤ e.top n * D ∧ e.top n * D < 2 * e.low + D := by
        rw [etop, Int.add_mul, Int.mul_comm (2 * e.low / D) D]
        split
        · omega
        · omega
      have hX : e.top n * D ≤ e.out n * D ∧ e.out n * D ≤ (e.top n + 2 ^ e.r - 1) * D :=
        ⟨Int.mul_le_mul_of_nonneg_right o1 (by omega), Int.mul_le_mul_of_nonneg_right (by omega) (by omega)⟩
      rw [Int.sub_mul, Int.add_mul, Int.one_mul] at hX
      have hX1 : e.out n < 256 ^ n := by
        rw [hpow] at hcap
        have : e.out n * D < 256 ^ n * D := by omega
        exact Int.lt_of_mul_lt_mul_right this (by omega)
      refine ⟨t0, hX1, ?_⟩
      rw [cp_tb n _ (by omega) hX1] at hcp
      unfold E.In
      rw [hcp]
      omega
  obtain ⟨k1, k2, k3⟩ := key
  refine ⟨hrn, k1, by omega, k2, k3, ?_⟩
  rw [bsum_tb _ _ (by omega)]
  simpa using o3
end Go.Pl
