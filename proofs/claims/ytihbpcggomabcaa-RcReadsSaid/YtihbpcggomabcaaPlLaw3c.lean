/-
  Chapter 3's statements in plain words: bits from the end are the bytes' bits.
  Conditions: none.
-/
import Derived.Test.YtihbpcggomabcaaPlLaw3b
set_option linter.unusedSimpArgs false
set_option linter.unusedVariables false
namespace Go.Pl
open Go.Eng Go.Proofs

/-- The bit number p from the end. -/
def bitE (b : List Int) (p : Nat) : Int := (eb b (p / 8) / 2 ^ (p % 8)) % 2

theorem bitE_range (b : List Int) (p : Nat) : 0 ≤ bitE b p ∧ bitE b p < 2 := by unfold bitE; omega

/-- n bits from P on. -/
def bsum (b : List Int) (P : Nat) : Nat → Int
  | 0 => 0
  | n + 1 => bsum b P n + bitE b (P + n) * 2 ^ n

theorem bsum_range (b : List Int) (P : Nat) : ∀ n, 0 ≤ bsum b P n ∧ bsum b P n < 2 ^ n
  | 0 => by simp [bsum]
  | n + 1 => by
    obtain ⟨h1, h2⟩ := bsum_range b P n
    obtain ⟨h3, h4⟩ := bitE_range b (P + n)
    have h5 := p2pos n
    have h6 : 0 ≤ bitE b (P + n) * 2 ^ n := Int.mul_nonneg h3 (by omega)
    have h7 : bitE b (P + n) * 2 ^ n ≤ 1 * 2 ^ n := Int.mul_le_mul_of_nonneg_right (by omega) (by omega)
    simp only [bsum, Int.pow_succ]
    omega

theorem bsum_split (b : List Int) (P a : Nat) : ∀ c, bsum b P (a + c) = bsum b P a + 2 ^ a * bsum b (P + a) c
  | 0 => by simp [bsum]
  | c + 1 => by
    rw [← Nat.add_assoc]
    simp only [bsum]
    rw [bsum_split b P a c, Int.pow_add, Nat.add_assoc P a c, Int.mul_add, ← Int.mul_assoc (2 ^ a), Int.mul_comm (2 ^ a) (bitE b _), Int.mul_assoc (bitE b _), Int.add_assoc]

theorem bsum_byte {b : List Int} (hb : Bytes b) (k : Nat) : bsum b (8 * k) 8 = eb b k := by
  obtain ⟨h1, h2⟩ := eb_range hb k
  simp only [bsum, bitE]
  rw [show (8 * k + 0) / 8 = k by omega, show (8 * k + 1) / 8 = k by omega, show (8 * k + 2) / 8 = k by omega, show (8 * k + 3) / 8 = k by omega, show (8 * k + 4) / 8 = k by omega, show (8 * k + 5) / 8 = k by omega, show (8 * k + 6) / 8 = k by omega, show (8 * k + 7) / 8 = k by omega]
  rw [show (8 * k + 0) % 8 = 0 by omega, show (8 * k + 1) % 8 = 1 by omega, show (8 * k + 2) % 8 = 2 by omega, show (8 * k + 3) % 8 = 3 by omega, show (8 * k + 4) % 8 = 4 by omega, show (8 * k + 5) % 8 = 5 by omega, show (8 * k + 6) % 8 = 6 by omega, show (8 * k + 7) % 8 = 7 by omega]
  generalize eb b k = x at h1 h2 ⊢
  have e0 : (2 : Int) ^ 0 = 1 := rfl
  have e1 : (2 : Int) ^ 1 = 2 := rfl
  have e2 : (2 : Int) ^ 2 = 4 := rfl
  have e3 : (2 : Int) ^ 3 = 8 := rfl
  have e4 : (2 : Int) ^ 4 = 16 := rfl
  have e5 : (2 : Int) ^ 5 = 32 := rfl
  have e6 : (2 : Int) ^ 6 = 64 := rfl
  have e7 : (2 : Int) ^ 7 = 128 := rfl
  rw [e0, e1, e2, e3, e4, e5, e6, e7]
  omega

/-- What waits are the next bits. -/
structure W.At (b : List Int) (w : W) (P : Nat) : Prop where
  a : 8 * w.k = P + w.wai
  b : w.win = bsum b P w.wai

theorem W.At.step {b : List Int} (hb : Bytes b) {w : W} {P : Nat} (h : w.At b P) : (w.step b).At b P := by
  refine ⟨by have := h.a; simp only [W.step]; omega, ?_⟩
  simp only [W.step]
  rw [bsum_split, h.b, show P + w.wai = 8 * w.k by have := h.a; omega, bsum_byte hb, Int.mul_comm]

theorem W.At.fill {b : List Int} (hb : Bytes b) {P n : Nat} : ∀ (f : Nat) (w : W), w.At b P → (W.fill b n f w).At b P
  | 0, w, h => h
  | f + 1, w, h => by
    simp only [W.fill]
    split
    · exact W.At.fill hb f _ (h.step hb)
    · exact h

theorem W.At.next {b : List Int} (hb : Bytes b) {w : W} {P n : Nat} (h : w.At b P) (hn : n ≤ 24) : w.val b n = bsum b P n ∧ (w.next b n).At b (P + n) := by
  have hf := W.At.fill (n := n) hb 4 w h
  have h4 := W.fill_n (b := b) (n := n) 4 w (by omega)
  obtain ⟨r0, r1⟩ := bsum_range b P n
  have hp := p2pos n
  have e : (W.fill b n 4 w).win = bsum b P n + 2 ^ n * bsum b (P + n) ((W.fill b n 4 w).wai - n) := by
    rw [hf.b, ← bsum_split]
    congr 1
    omega
  refine ⟨?_, ⟨?_, ?_⟩⟩
  · unfold W.val W.at
    rw [e, Int.add_mul_emod_self_left, Int.emod_eq_of_lt r0 r1]
  · have := hf.a
    simp only [W.next, W.at]
    omega
  · simp only [W.next, W.at]
    rw [e, Int.add_mul_ediv_left _ _ (by omega), Int.ediv_eq_zero_of_lt r0 r1, Int.zero_add]

theorem and1_8 {a : Int} (h0 : 0 ≤ a) (h1 : a < 256) : IntKind.u8.wrap ↑(BitVec.ofInt IntKind.u8.bits a &&& BitVec.ofInt IntKind.u8.bits 1).toNat = a % 2 := by
  rw [bits_u8, and_mask (w := 8) (k := 1) (m := 1) h0 (by show a < 256; exact h1) rfl (by omega), u8 (by omega) (by omega)]
  rfl

theorem raw_want {N : Nat} {b : List Int} {l : List Int} (hb : Bytes b) (hl : b.length ≤ 200) {at_ n : Nat} (ha : at_ ≤ 100000) (hn : n ≤ 15) : ∀ (nn k : Nat), k ≤ n → n - k < nn →
    Rc.rcRaw.loop13 N b l nn (at_ : Int) (n : Int) b (bsum b at_ k) (k : Int) = some (bsum b at_ n)
  | 0, k, hk, h => by omega
  | nn + 1, k, hk, h => by
    unfold Rc.rcRaw.loop13
    simp only [br_dec, chkI_same, chkB_same, chkL_same]
    by_cases hlt : k < n
    · obtain ⟨r0, r1⟩ := bsum_range b at_ k
      have hp : (2 : Int) ^ k ≤ 32768 := p2le (a := k) (b := 15) (by omega)
      have hp0 := p2pos k
      rw [if_pos (by omega), i64 (x := (at_ : Int) + k) (by omega) (by omega), tdiv_ediv (by omega), i64 (x := ((at_ : Int) + k) / 8) (by omega) (by omega)]
      have ediv : ((at_ : Int) + k) / 8 = (((at_ + k) / 8 : Nat) : Int) := by omega
      have emod : ((at_ : Int) + k) % 8 = (((at_ + k) % 8 : Nat) : Int) := by omega
      by_cases hin : (at_ + k) / 8 < b.length
      · rw [if_pos (by omega), i64 (x := (b.length : Int) - 1) (by omega) (by omega), i64 (x := (b.length : Int) - 1 - _) (by omega) (by omega), chk_pos (by omega), tmod_emod (by omega), u64 (x := ((at_ : Int) + k) % 8) (by omega) (by omega), chk_pos (by omega),
          u64 (x := (k : Int)) (by omega) (by omega), chk_pos (by omega), Int.toNat_natCast, ediv, emod, Int.toNat_natCast, show ((b.length : Int) - 1 - (((at_ + k) / 8 : Nat) : Int)).toNat = b.length - 1 - (at_ + k) / 8 by omega]
        obtain ⟨x0, x1⟩ := eb_range hb ((at_ + k) / 8)
        have ex : b.getD (b.length - 1 - (at_ + k) / 8) 0 = eb b ((at_ + k) / 8) := by unfold eb; rw [if_pos hin]
        rw [ex, bits_i64, show min k 64 = k by omega, show min ((at_ + k) % 8) IntKind.u8.bits = (at_ + k) % 8 by rw [bits_u8]; omega, fdiv_ediv (by have := p2pos ((at_ + k) % 8); omega)]
        have hq0 : 0 ≤ eb b ((at_ + k) / 8) / 2 ^ ((at_ + k) % 8) := Int.ediv_nonneg x0 (by have := p2pos ((at_ + k) % 8); omega)
        have hq1 : eb b ((at_ + k) / 8) / 2 ^ ((at_ + k) % 8) ≤ eb b ((at_ + k) / 8) := Int.ediv_le_self _ x0
        rw [and1_8 hq0 (by omega)]
        have hbit : eb b ((at_ + k) / 8) / 2 ^ ((at_ + k) % 8) % 2 = bitE b (at_ + k) := rfl
        obtain ⟨t0, t1⟩ := bitE_range b (at_ + k)
        rw [hbit]
        have h6 : 0 ≤ bitE b (at_ + k) * 2 ^ k := Int.mul_nonneg t0 (by omega)
        have h7 : bitE b (at_ + k) * 2 ^ k ≤ 1 * 2 ^ k := Int.mul_le_mul_of_nonneg_right (by omega) (by omega)
        rw [i64 (x := bitE b (at_ + k)) (by omega) (by omega), i64 (x := bitE b (at_ + k) * 2 ^ k) (by omega) (by omega), or_comm', or_add t0 (by show bitE b (at_ + k) * 2 ^ k < 18446744073709551616; omega) r0 r1 (by omega), i64 (x := _ + bsum b at_ k) (by omega) (by omega), i64 (x := (k : Int) + 1) (by omega) (by omega)]
        have ih := raw_want (N := N) (l := l) hb hl ha hn nn (k + 1) (by omega) (by omega)
        simp only [bsum] at ih
        rw [Int.add_comm (bitE b (at_ + k) * 2 ^ k)]
        exact ih
      · rw [if_neg (by omega), i64 (x := (k : Int) + 1) (by omega) (by omega)]
        have ih := raw_want (N := N) (l := l) hb hl ha hn nn (k + 1) (by omega) (by omega)
        have hz : bitE b (at_ + k) = 0 := by
          unfold bitE eb
          rw [if_neg hin]
          simp
        simp only [bsum, hz, Int.zero_mul, Int.add_zero] at ih
        exact ih
    · rw [if_neg (by omega)]
      have : k = n := by omega
      rw [this]

theorem raw_loop {N : Nat} {b l : List Int} {last front : Int} (hb : Bytes b) (hl : b.length ≤ 200) (hN : 300 ≤ N) (hll : l.length ≤ 100) {q : Q} (hq : q.Ok) (hr : q.rng = 2147483648) :
    ∀ (nn i : Nat) (w : W) (P : Nat) (s : Bool), w.Ok → w.At b P → P ≤ 16 * i → i ≤ l.length → l.length - i < nn →
      ∃ r, Rc.rcRaw.loop8 N b l nn q.rng q.val last front false b l b (P : Int) (i : Int) (fr b w.k) w.win (w.wai : Int) (33 + (P : Int)) s = some (Sum.inl r)
  | 0, i, w, P, s, _, _, _, _, h => by omega
  | nn + 1, i, w, P, s, hw, hat, hP, hi, h => by
    unfold Rc.rcRaw.loop8
    simp only [br_dec, chkI_same, chkB_same, chkL_same]
    by_cases hlt : i < l.length
    · rw [if_pos (by omega), chk_pos (by omega), mask15]
      obtain ⟨n, hn⟩ : ∃ n : Nat, l.getD (i : Int).toNat 0 % 16 = n := ⟨(l.getD (i : Int).toNat 0 % 16).toNat, by omega⟩
      have hn2 : n ≤ 15 := by omega
      rw [hn]
      have hwant := raw_want (N := N) (l := l) hb hl (at_ := P) (n := n) (by omega) hn2 N 0 (by omega) (by omega)
      rw [show bsum b P 0 = 0 from rfl, show ((0 : Nat) : Int) = 0 from rfl] at hwant
      rw [hwant, obind_of, bits_F hb (by omega) hw n (by omega) (by omega) hN, if_pos (by omega), obind_of]
      obtain ⟨hv, hat2⟩ := hat.next hb (n := n) (by omega)
      simp only [Int.toNat_natCast]
      rw [hv, br_bne, if_pos rfl, tell_F hq (by omega) (by omega), obind_of, i64 (x := (P : Int) + n) (by omega) (by omega), i64 (x := 1 + _) (by omega) (by omega)]
      have e32 : bl q.rng = 32 := by rw [hr]; decide +kernel
      have et : q.tell (33 + (P : Int) + n) = 1 + ((P : Int) + n) := by unfold Q.tell; omega
      rw [et, br_bne, if_pos rfl, i64 (x := (i : Int) + 1) (by omega) (by omega)]
      have ih := raw_loop (last := last) (front := front) hb hl hN hll hq hr nn (i + 1) (w.next b n) (P + n) s (W.next_ok hb hw (by omega)) hat2 (by omega) (by omega) (by omega)
      rw [show ((P + n : Nat) : Int) = (P : Int) + n by omega, show 33 + ((P : Int) + n) = 33 + (P : Int) + n by omega] at ih
      exact ih
    · rw [if_neg (by omega)]
      exact ⟨_, rfl⟩

theorem rcRaw_pure (b l : List Int) (hw : WfL .u8 b) : ∃ N, Rc.rcRaw.F N b l = some true := by
  refine ⟨2000, ?_⟩
  have hb := bytes_of hw
  unfold Rc.rcRaw.F
  rw [awake_F (by omega), obind_of]
  simp only [br_dec, br_not, if_true]
  by_cases h1 : (b.length : Int) > 200
  · rw [if_pos h1]
  rw [if_neg h1]
  by_cases h2 : (l.length : Int) > 100
  · rw [if_pos h2]
  rw [if_neg h2, new_F hb (by omega) (by omega), obind_of, cnew_eq]
  obtain ⟨r1, m1⟩ := Q.new_rng b
  simp only
  rw [m1]
  obtain ⟨r, hr⟩ := raw_loop (N := 2000) (b := b) (l := l) (last := (Q.new b).last) (front := fr b 4) hb (by omega) (by omega) (by omega) (Q.new_ok hb) r1 2000 0 W.new 0 false W.new_ok ⟨rfl, rfl⟩ (by omega) (by omega) (by omega)
  simp only [W.new] at hr
  rw [show ((0 : Nat) : Int) = 0 from rfl, show fr b 0 = 0 by simp [fr], show (33 + 0 : Int) = 1 + 8 * ((4 : Nat) : Int) from rfl] at hr
  rw [hr, osum_inl]
end Go.Pl
