/-
  Chapter 4 in plain words: bytes of numbers, the range encoder's register as whole numbers, what is written is read.
  Conditions: none.
-/
import Derived.Test.YtlbdcahecabfkaaPlG7
set_option linter.unusedSimpArgs false
set_option linter.unusedVariables false
namespace Go.Pl
open Go.Eng
def tb : Nat → Int → List Int
  | 0, _ => []
  | k + 1, n => tb k (n / 256) ++ [n % 256]
theorem tb_len : ∀ (k : Nat) (n : Int), (tb k n).length = k
  | 0, _ => rfl
  | k + 1, n => by simp [tb, tb_len k]
theorem tb_bytes : ∀ (k : Nat) (n : Int), Bytes (tb k n)
  | 0, _ => fun x hx => by simp [tb] at hx
  | k + 1, n => fun x hx => by
    simp only [tb, List.mem_append, List.mem_singleton] at hx
    rcases hx with hx | rfl
    · exact tb_bytes k _ x hx
    · omega
theorem tb_snoc (k : Nat) (n : Int) {c : Int} (h0 : 0 ≤ c) (h1 : c < 256) : tb k n ++ [c] = tb (k + 1) (n * 256 + c) := by
  simp only [tb]
  rw [show (n * 256 + c) / 256 = n by omega, show (n * 256 + c) % 256 = c by omega]
theorem p256_2 (a : Nat) : (256 : Int) ^ a = 2 ^ (8 * a) := by rw [Int.pow_mul]; rfl
theorem p256pos (a : Nat) : (0 : Int) < 256 ^ a := by rw [p256_2]; exact p2pos _
def cp (b : List Int) : Nat → Int
  | 0 => 0
  | m + 1 => cp b m * 256 + nb b m
theorem cp_nonneg {b : List Int} (hb : Bytes b) : ∀ m, 0 ≤ cp b m
  | 0 => by simp [cp]
  | m + 1 => by have := cp_nonneg hb m; have := nb_range hb m; simp only [cp]; omega
theorem cp_lt {b : List Int} (hb : Bytes b) : ∀ m, cp b m < 256 ^ m
  | 0 => by simp [cp]
  | m + 1 => by have := cp_lt hb m; have := nb_range hb m; simp only [cp, Int.pow_succ]; omega
theorem cp_app (b c : List Int) : ∀ m, m ≤ b.length → cp (b ++ c) m = cp b m
  | 0, _ => rfl
  | m + 1, h => by simp only [cp]; rw [cp_app b c m (by omega), nb_app (by omega)]
theorem cp_tb : ∀ (k : Nat) (n : Int), 0 ≤ n → n < 256 ^ k → cp (tb k n) k = n
  | 0, n, h0, h1 => by simp at h1; simp [cp]; omega
  | k + 1, n, h0, h1 => by
    rw [Int.pow_succ] at h1
    simp only [cp]
    have e : cp (tb (k + 1) n) k = n / 256 := by
      simp only [tb]
      rw [cp_app _ _ k (by rw [tb_len]; omega)]
      exact cp_tb k (n / 256) (by omega) (by omega)
    have e2 : nb (tb (k + 1) n) k = n % 256 := by
      simp only [tb, nb]
      rw [List.getD_eq_getElem?_getD, List.getElem?_append_right (by rw [tb_len]; omega), tb_len]
      simp
    rw [e, e2]
    omega
theorem cp_more {b : List Int} (j : Nat) : cp b (b.length + j) = cp b b.length * 256 ^ j := by
  induction j with
  | zero => simp
  | succ j ih =>
    rw [← Nat.add_assoc]
    simp only [cp]
    rw [ih, show nb b (b.length + j) = 0 from getD_out (by omega), Int.pow_succ, Int.mul_assoc, Int.add_zero]
theorem cp_less {b : List Int} (hb : Bytes b) (m : Nat) : ∀ j, cp b m = cp b (m + j) / 256 ^ j
  | 0 => by simp
  | j + 1 => by
    have h := nb_range hb (m + j)
    have hp := p256pos j
    rw [← Nat.add_assoc]
    simp only [cp]
    rw [Int.pow_succ, Int.mul_comm (256 ^ j), ← Int.ediv_ediv_of_nonneg (by omega), show (cp b (m + j) * 256 + nb b (m + j)) / 256 = cp b (m + j) by omega]
    exact cp_less hb m j
def le : Nat → Int → List Int
  | 0, _ => []
  | k + 1, n => n % 256 :: le k (n / 256)
theorem le_len : ∀ (k : Nat) (n : Int), (le k n).length = k
  | 0, _ => rfl
  | k + 1, n => by simp [le, le_len k]
theorem le_get : ∀ (k : Nat) (n : Int) (i : Nat), i < k → (le k n).getD i 0 = n / 256 ^ i % 256
  | 0, n, i, h => by omega
  | k + 1, n, 0, h => by simp [le]
  | k + 1, n, i + 1, h => by
    have := le_get k (n / 256) i (by omega)
    simp only [le, List.getD_cons_succ]
    have hp := p256pos i
    rw [this, Int.ediv_ediv_of_nonneg (by omega), Int.pow_succ, Int.mul_comm]
theorem le_bytes : ∀ (k : Nat) (n : Int), Bytes (le k n)
  | 0, _ => fun x hx => by simp [le] at hx
  | k + 1, n => fun x hx => by
    simp only [le, List.mem_cons] at hx
    rcases hx with rfl | hx
    · omega
    · exact le_bytes k _ x hx
theorem le_ext {a b : List Int} (h : a.length = b.length) (hg : ∀ i, i < a.length → a.getD i 0 = b.getD i 0) : a = b := by
  apply List.ext_getElem h
  intro i h1 h2
  have := hg i h1
  simpa [List.getD_eq_getElem?_getD, List.getElem?_eq_getElem h1, List.getElem?_eq_getElem h2] using this
structure E where
  k : Nat
  low : Int
  rng : Int
  r : Nat
  raw : Int
def E.told (e : E) : List Int := tb e.k (e.low / 2147483648)
def E.val (e : E) : Int := e.low % 2147483648
def E.bits (e : E) : List Int := le ((e.r + 7) / 8) e.raw
def E.count (e : E) : Int := 33 + 8 * (e.k : Int) + (e.r : Int)
def E.tell (e : E) : Int := e.count - bl e.rng
structure E.Pre (e : E) : Prop where
  r0 : 1 ≤ e.rng
  r1 : e.rng ≤ 2147483648
  l0 : 0 ≤ e.low
  l1 : e.low + e.rng ≤ 2147483648 * 256 ^ e.k
  w0 : 0 ≤ e.raw
  w1 : e.raw < 2 ^ e.r
structure E.Ok (e : E) : Prop extends E.Pre e where
  g : 8388608 < e.rng
def E.step (e : E) : E := ⟨e.k + 1, e.low * 256, e.rng * 256, e.r, e.raw⟩
def E.norm : Nat → E → E
  | 0, e => e
  | n + 1, e => if e.rng ≤ 8388608 then E.norm n e.step else e
def E.on (e : E) : E := E.norm 4 e
theorem E.Pre.step {e : E} (h : e.Pre) (hr : e.rng ≤ 8388608) : e.step.Pre := by
  obtain ⟨h1, h2, h3, h4, h5, h6⟩ := h
  refine ⟨by simp only [E.step]; omega, by simp only [E.step]; omega, by simp only [E.step]; omega, ?_, h5, h6⟩
  simp only [E.step, Int.pow_succ]
  omega
theorem E.norm_ok : ∀ (n : Nat) (e : E), e.Pre → 8388608 < e.rng * 256 ^ n → (E.norm n e).Ok
  | 0, e, h, hn => ⟨h, by simpa [E.norm] using hn⟩
  | n + 1, e, h, hn => by
    simp only [E.norm]
    split
    · rename_i hr
      refine E.norm_ok n _ (h.step hr) ?_
      simp only [E.step]
      rw [Int.pow_succ] at hn
      rw [Int.mul_assoc, Int.mul_comm 256]
      exact hn
    · exact ⟨h, by omega⟩
theorem E.on_ok {e : E} (h : e.Pre) : e.on.Ok := E.norm_ok 4 e h (by have := h.r0; omega)
theorem E.norm_stop {e : E} (h : 8388608 < e.rng) : ∀ n, E.norm n e = e
  | 0 => rfl
  | n + 1 => by simp only [E.norm]; rw [if_neg (by omega)]
theorem E.norm_same : ∀ (n : Nat) (e : E), (E.norm n e).r = e.r ∧ (E.norm n e).raw = e.raw ∧ e.k ≤ (E.norm n e).k ∧ (E.norm n e).k ≤ e.k + n
  | 0, e => by simp [E.norm]
  | n + 1, e => by
    simp only [E.norm]
    split
    · have := E.norm_same n e.step
      simp only [E.step] at this ⊢
      omega
    · simp
theorem E.norm_tell : ∀ (n : Nat) (e : E), 1 ≤ e.rng → (E.norm n e).tell = e.tell
  | 0, e, _ => rfl
  | n + 1, e, h => by
    simp only [E.norm]
    split
    · rw [E.norm_tell n _ (by simp only [E.step]; omega)]
      simp only [E.tell, E.count, E.step]
      have := bl_mul h 8
      rw [show (2 : Int) ^ 8 = 256 from rfl] at this
      omega
    · rfl
theorem E.on_tell {e : E} (h : 1 ≤ e.rng) : e.on.tell = e.tell := E.norm_tell 4 e h
def E.tk0 (e : E) (fl fh ft : Int) : E :=
  if 0 < fl then ⟨e.k, e.low + (e.rng - e.rng / ft * (ft - fl)), e.rng / ft * (fh - fl), e.r, e.raw⟩
  else ⟨e.k, e.low, e.rng - e.rng / ft * (ft - fh), e.r, e.raw⟩
def E.tk (e : E) (fl fh ft : Int) : E := (e.tk0 fl fh ft).on
def E.f0 (e : E) (v : Bool) (n : Nat) : E :=
  if v then ⟨e.k, e.low + (e.rng - e.rng / 2 ^ n), e.rng / 2 ^ n, e.r, e.raw⟩ else ⟨e.k, e.low, e.rng - e.rng / 2 ^ n, e.r, e.raw⟩
def E.fl (e : E) (v : Bool) (n : Nat) : E := (e.f0 v n).on
def E.bt (e : E) (v : Int) (n : Nat) : E := ⟨e.k, e.low, e.rng, e.r + n, e.raw + v * 2 ^ e.r⟩
structure Place (fl fh ft : Int) : Prop where
  t0 : 1 ≤ ft
  t1 : ft ≤ 65536
  a : 0 ≤ fl
  b : fl < fh
  c : fh ≤ ft
theorem E.tk0_facts {e : E} (h : e.Ok) {fl fh ft : Int} (p : Place fl fh ft) :
    1 ≤ e.rng / ft ∧ e.rng / ft * ft ≤ e.rng ∧ 0 ≤ e.rng / ft * (ft - fh) ∧ e.rng / ft * (ft - fh) + e.rng / ft * (fh - fl) = e.rng / ft * (ft - fl) ∧ e.rng / ft * (ft - fl) + e.rng / ft * fl = e.rng / ft * ft ∧ 1 ≤ e.rng / ft * (fh - fl) ∧ 0 ≤ e.rng / ft * fl := by
  obtain ⟨t0, t1, a, b, c⟩ := p
  obtain ⟨e0, e1, e2⟩ := e_facts h.g t0 t1
  generalize e.rng / ft = s at *
  refine ⟨e0, e1, Int.mul_nonneg (by omega) (by omega), ?_, ?_, ?_, Int.mul_nonneg (by omega) (by omega)⟩
  · rw [← Int.mul_add]; congr 1; omega
  · rw [← Int.mul_add]; congr 1; omega
  · have : 1 * 1 ≤ s * (fh - fl) := Int.mul_le_mul e0 (by omega) (by omega) (by omega)
    omega
theorem E.tk0_pre {e : E} (h : e.Ok) {fl fh ft : Int} (p : Place fl fh ft) : (e.tk0 fl fh ft).Pre := by
  obtain ⟨k1, k2, k3, k4, k5, k6, k7⟩ := E.tk0_facts h p
  obtain ⟨⟨h1, h2, h3, h4, h5, h6⟩, h7⟩ := h
  unfold E.tk0
  split
  · exact ⟨by simp only; omega, by simp only; omega, by simp only; omega, by simp only; omega, h5, h6⟩
  · have : fl = 0 := by have := p.a; omega
    subst this
    simp only [Int.sub_zero] at *
    exact ⟨by simp only; omega, by simp only; omega, by simp only; omega, by simp only; omega, h5, h6⟩
theorem E.tk_ok {e : E} (h : e.Ok) {fl fh ft : Int} (p : Place fl fh ft) : (e.tk fl fh ft).Ok := E.on_ok (E.tk0_pre h p)
theorem E.f0_facts {e : E} (h : e.Ok) {n : Nat} (n0 : 1 ≤ n) (n1 : n ≤ 15) : 1 ≤ e.rng / 2 ^ n ∧ 2 * (e.rng / 2 ^ n) ≤ e.rng := by
  have h1 := p2pos n
  have h2 : (2 : Int) ^ n ≤ 32768 := p2le (a := n) (b := 15) (by omega)
  have h3 : (2 : Int) ≤ 2 ^ n := p2le (a := 1) (b := n) (by omega)
  have hr := h.g
  have h4 := Int.ediv_mul_le e.rng (show (2 : Int) ^ n ≠ 0 by omega)
  generalize (2 : Int) ^ n = D at *
  have h5 : 1 ≤ e.rng / D := by rw [Int.le_ediv_iff_mul_le (by omega)]; omega
  have h6 : e.rng / D * 2 ≤ e.rng / D * D := Int.mul_le_mul_of_nonneg_left h3 (by omega)
  omega
theorem E.f0_pre {e : E} (h : e.Ok) (v : Bool) {n : Nat} (n0 : 1 ≤ n) (n1 : n ≤ 15) : (e.f0 v n).Pre := by
  obtain ⟨k1, k2⟩ := E.f0_facts h n0 n1
  obtain ⟨⟨h1, h2, h3, h4, h5, h6⟩, h7⟩ := h
  unfold E.f0
  cases v
  · exact ⟨by simp only [Bool.false_eq_true, if_false]; omega, by simp only [Bool.false_eq_true, if_false]; omega, by simp only [Bool.false_eq_true, if_false]; omega, by simp only [Bool.false_eq_true, if_false]; omega, h5, h6⟩
  · exact ⟨by simp only [if_true]; omega, by simp only [if_true]; omega, by simp only [if_true]; omega, by simp only [if_true]; omega, h5, h6⟩
theorem E.fl_ok {e : E} (h : e.Ok) (v : Bool) {n : Nat} (n0 : 1 ≤ n) (n1 : n ≤ 15) : (e.fl v n).Ok := E.on_ok (E.f0_pre h v n0 n1)
theorem E.bt_ok {e : E} (h : e.Ok) {v : Int} {n : Nat} (v0 : 0 ≤ v) (v1 : v < 2 ^ n) : (e.bt v n).Ok := by
  obtain ⟨⟨h1, h2, h3, h4, h5, h6⟩, h7⟩ := h
  have hp := p2pos e.r
  refine ⟨⟨h1, h2, h3, h4, ?_, ?_⟩, h7⟩
  · have := Int.mul_nonneg v0 (show 0 ≤ (2 : Int) ^ e.r by omega)
    simp only [E.bt]; omega
  · simp only [E.bt]
    rw [Int.pow_add]
    have : v * 2 ^ e.r ≤ (2 ^ n - 1) * 2 ^ e.r := Int.mul_le_mul_of_nonneg_right (by omega) (by omega)
    rw [Int.sub_mul, Int.one_mul, Int.mul_comm (2 ^ n)] at this
    omega
def E.In (b : List Int) (e : E) : Prop := e.low ≤ cp b (e.k + 4) / 2 ∧ cp b (e.k + 4) / 2 < e.low + e.rng
def E.rd (b : List Int) (e : E) : Q := ⟨e.rng, e.low + e.rng - 1 - cp b (e.k + 4) / 2, nb b (e.k + 3), e.k + 4⟩
theorem cp_half {b : List Int} (hb : Bytes b) (m : Nat) : cp b (m + 2) / 2 = cp b (m + 1) / 2 * 256 + (nb b m * 256 + nb b (m + 1)) / 2 % 256 := by
  have h1 := nb_range hb m
  have h2 := nb_range hb (m + 1)
  simp only [cp]
  generalize cp b m = x
  generalize nb b m = y at *
  generalize nb b (m + 1) = z at *
  omega
theorem E.step_in {b : List Int} (hb : Bytes b) {e : E} : e.step.In b ↔ e.In b := by
  have := cp_half hb (e.k + 3)
  simp only [E.In, E.step]
  rw [show e.k + 1 + 4 = e.k + 3 + 2 by omega, this, show e.k + 3 + 1 = e.k + 4 by omega]
  generalize (nb b (e.k + 3) * 256 + nb b (e.k + 4)) / 2 = y
  generalize cp b (e.k + 4) / 2 = x
  omega
theorem E.step_rd {b : List Int} (hb : Bytes b) {e : E} : e.step.rd b = (e.rd b).step b := by
  have := cp_half hb (e.k + 3)
  simp only [E.rd, E.step, Q.step]
  rw [show e.k + 1 + 4 = e.k + 3 + 2 by omega, this, show e.k + 3 + 1 = e.k + 4 by omega, show e.k + 1 + 3 = e.k + 4 by omega, show e.k + 4 + 1 = e.k + 3 + 2 by omega]
  congr 1
  generalize (nb b (e.k + 3) * 256 + nb b (e.k + 4)) / 2 = y
  generalize cp b (e.k + 4) / 2 = x
  omega
theorem E.norm_in {b : List Int} (hb : Bytes b) : ∀ (n : Nat) (e : E), (E.norm n e).In b ↔ e.In b
  | 0, e => Iff.rfl
  | n + 1, e => by
    simp only [E.norm]
    split
    · rw [E.norm_in hb n, E.step_in hb]
    · exact Iff.rfl
theorem E.norm_rd {b : List Int} (hb : Bytes b) : ∀ (n : Nat) (e : E), (E.norm n e).rd b = Q.norm b n (e.rd b)
  | 0, e => rfl
  | n + 1, e => by
    simp only [E.norm, Q.norm]
    have : (e.rd b).rng = e.rng := rfl
    rw [this]
    split
    · rw [E.norm_rd hb n, E.step_rd hb]
    · rfl
theorem E.on_in {b : List Int} (hb : Bytes b) (e : E) : e.on.In b ↔ e.In b := E.norm_in hb 4 e
theorem E.on_rd {b : List Int} (hb : Bytes b) (e : E) : e.on.rd b = (e.rd b).on b := E.norm_rd hb 4 e
theorem E.rd_ok {b : List Int} (hb : Bytes b) {e : E} (h : e.Ok) (hi : e.In b) : (e.rd b).Ok := by
  obtain ⟨i1, i2⟩ := hi
  have := nb_range hb (e.k + 3)
  exact ⟨h.g, h.r1, by simp only [E.rd]; omega, by simp only [E.rd]; omega, this.1, this.2⟩
theorem E.tk_in {b : List Int} (hb : Bytes b) {e : E} (h : e.Ok) {fl fh ft : Int} (p : Place fl fh ft) (hi : (e.tk fl fh ft).In b) : e.In b := by
  obtain ⟨k1, k2, k3, k4, k5, k6, k7⟩ := E.tk0_facts h p
  have hi := (E.on_in hb _).1 hi
  unfold E.tk0 at hi
  split at hi
  · obtain ⟨i1, i2⟩ := hi
    simp only at i1 i2
    exact ⟨by omega, by omega⟩
  · obtain ⟨i1, i2⟩ := hi
    simp only at i1 i2
    exact ⟨by omega, by omega⟩
theorem E.tk_rd {b : List Int} (hb : Bytes b) {e : E} (h : e.Ok) {fl fh ft : Int} (p : Place fl fh ft) (hi : (e.tk fl fh ft).In b) :
    fl ≤ (e.rd b).ch ft ∧ (e.rd b).ch ft < fh ∧ (e.tk fl fh ft).rd b = (e.rd b).tk b fl fh ft := by
  obtain ⟨k1, k2, k3, k4, k5, k6, k7⟩ := E.tk0_facts h p
  have ho := E.rd_ok hb h (E.tk_in hb h p hi)
  have hi := (E.on_in hb _).1 hi
  have hd := d_facts ho.v0 k1
  have e1 : (e.rd b).rng = e.rng := rfl
  have e2 : (e.rd b).val = e.low + e.rng - 1 - cp b (e.k + 4) / 2 := rfl
  have e3 : (e.rd b).ch ft = ft - min ((e.rd b).val / (e.rng / ft) + 1) ft := rfl
  have hch : fl ≤ (e.rd b).ch ft ∧ (e.rd b).ch ft < fh := by
    rw [e3]
    obtain ⟨d1, d2, d3, d4⟩ := hd
    generalize hs : e.rng / ft = s at *
    generalize hv : (e.rd b).val = v at *
    have hp1 := p.a
    have hp2 := p.b
    have hp3 := p.c
    unfold E.tk0 at hi
    rw [hs] at hi
    split at hi
    · obtain ⟨i1, i2⟩ := hi
      simp only at i1 i2
      have hlo : s * (ft - fh) ≤ v := by omega
      have hhi : v < s * (ft - fl) := by omega
      have g1 : ft - fh ≤ v / s := by rw [Int.le_ediv_iff_mul_le (by omega), Int.mul_comm]; exact hlo
      have g2 : v / s < ft - fl := by rw [Int.ediv_lt_iff_lt_mul (by omega), Int.mul_comm]; exact hhi
      omega
    · obtain ⟨i1, i2⟩ := hi
      simp only at i1 i2
      have hlo : s * (ft - fh) ≤ v := by omega
      have g1 : ft - fh ≤ v / s := by rw [Int.le_ediv_iff_mul_le (by omega), Int.mul_comm]; exact hlo
      omega
  refine ⟨hch.1, hch.2, ?_⟩
  unfold E.tk Q.tk
  rw [E.on_rd hb]
  congr 1
  unfold E.tk0 Q.tk0
  rw [e1]
  split
  · simp only [E.rd]
    congr 1
    omega
  · simp only [E.rd]
    congr 1
    omega
theorem E.fl_in {b : List Int} (hb : Bytes b) {e : E} (h : e.Ok) {v : Bool} {n : Nat} (n0 : 1 ≤ n) (n1 : n ≤ 15) (hi : (e.fl v n).In b) : e.In b := by
  obtain ⟨k1, k2⟩ := E.f0_facts h n0 n1
  have hi := (E.on_in hb _).1 hi
  unfold E.f0 at hi
  split at hi
  · obtain ⟨i1, i2⟩ := hi
    simp only at i1 i2
    exact ⟨by omega, by omega⟩
  · obtain ⟨i1, i2⟩ := hi
    simp only at i1 i2
    exact ⟨by omega, by omega⟩
theorem E.fl_rd {b : List Int} (hb : Bytes b) {e : E} (h : e.Ok) {v : Bool} {n : Nat} (n0 : 1 ≤ n) (n1 : n ≤ 15) (hi : (e.fl v n).In b) :
    (e.rd b).fv n = v ∧ (e.fl v n).rd b = (e.rd b).fl b n := by
  obtain ⟨k1, k2⟩ := E.f0_facts h n0 n1
  have hi := (E.on_in hb _).1 hi
  have e1 : (e.rd b).fs n = e.rng / 2 ^ n := by simp only [Q.fs, E.rd, Int.toNat_natCast]
  have e2 : (e.rd b).val = e.low + e.rng - 1 - cp b (e.k + 4) / 2 := rfl
  unfold E.fl Q.fl
  rw [E.on_rd hb]
  unfold Q.fv Q.f0
  rw [e1, e2]
  unfold E.f0 at hi ⊢
  cases v
  · simp only [Bool.false_eq_true, if_false] at hi ⊢
    obtain ⟨i1, i2⟩ := hi
    simp only at i1 i2
    have hn : ¬ (e.low + e.rng - 1 - cp b (e.k + 4) / 2 < e.rng / 2 ^ n) := by omega
    refine ⟨by simp only [decide_eq_false_iff_not]; exact hn, ?_⟩
    rw [if_neg hn]
    simp only [E.rd]
    congr 2
    omega
  · simp only [if_true] at hi ⊢
    obtain ⟨i1, i2⟩ := hi
    simp only at i1 i2
    have hn : e.low + e.rng - 1 - cp b (e.k + 4) / 2 < e.rng / 2 ^ n := by omega
    refine ⟨by simp only [decide_eq_true_eq]; exact hn, ?_⟩
    rw [if_pos hn]
    simp only [E.rd]
    congr 2
    omega
theorem E.bt_in {b : List Int} {e : E} {v : Int} {n : Nat} : (e.bt v n).In b ↔ e.In b := Iff.rfl
theorem E.bt_rd {b : List Int} {e : E} {v : Int} {n : Nat} : (e.bt v n).rd b = e.rd b := rfl
end Go.Pl
