/-
  Plain words for plain proofs: what the evaluator's marks come to, wraps, bits. Nothing is claimed of the program here.
  Conditions: none.
-/
import Derived.Test.YtghbobmkkbdhpaaGreatEngRegToEngWords
import Derived.Test.YtghbobmkkbdhpaaGreatRcFns
import Derived.Test.YtghbobmkkbdhpaaGreatRencFns
set_option linter.unusedVariables false
set_option linter.unusedSimpArgs false
namespace Go.Pl
open Go.Eng
variable {X Y : Type}
theorem br_true (t e : Option Y) : br true t e = t := rfl
theorem br_false (t e : Option Y) : br false t e = e := rfl
theorem br_dec {p : Prop} [Decidable p] (t e : Option Y) : br (decide p) t e = if p then t else e := by
  by_cases h : p <;> simp [br, h]
theorem br_not (b : Bool) (t e : Option Y) : br (!b) t e = if b = true then e else t := by cases b <;> rfl
theorem br_bne (a b : Int) (t e : Option Y) : br (a != b) t e = if a = b then e else t := by
  by_cases h : a = b
  · subst h; simp [br]
  · have : (a != b) = true := by simpa using h
    rw [this, if_neg h]; rfl
theorem br_beq (a b : Int) (t e : Option Y) : br (a == b) t e = if a = b then t else e := by
  by_cases h : a = b
  · subst h; simp [br]
  · have : (a == b) = false := by simpa using h
    rw [this, if_neg h]; rfl
theorem chk_pos {c : Prop} [Decidable c] (h : c) (k : Option Y) : chk c k = k := by simp [chk, h]
theorem chkI_same (x : Int) (k : Option Y) : chkI x x k = k := by simp [chkI]
theorem chkB_same (x : Bool) (k : Option Y) : chkB x x k = k := by simp [chkB]
theorem chkL_same (x : List Int) (k : Option Y) : chkL x x k = k := by simp [chkL]
theorem obind_of (x : X) (k : X → Option Y) : obind (some x) k = k x := rfl
theorem osum_inl {Z : Type} (x : X) (k : X → Option Z) : osum (some (Sum.inl x)) k = k x := rfl
theorem u64 {x : Int} (h0 : 0 ≤ x) (h1 : x < 18446744073709551616) : IntKind.u64.wrap x = x := by
  simp only [IntKind.wrap, IntKind.signed, IntKind.bits, Bool.false_and, Bool.false_eq_true, if_false]
  omega
theorem u32 {x : Int} (h0 : 0 ≤ x) (h1 : x < 4294967296) : IntKind.u32.wrap x = x := by
  simp only [IntKind.wrap, IntKind.signed, IntKind.bits, Bool.false_and, Bool.false_eq_true, if_false]
  omega
theorem u8 {x : Int} (h0 : 0 ≤ x) (h1 : x < 256) : IntKind.u8.wrap x = x := by
  simp only [IntKind.wrap, IntKind.signed, IntKind.bits, Bool.false_and, Bool.false_eq_true, if_false]
  omega
theorem i64 {x : Int} (h0 : -9223372036854775808 ≤ x) (h1 : x < 9223372036854775808) : IntKind.i64.wrap x = x := by
  simp only [IntKind.wrap, IntKind.signed, IntKind.bits, Bool.true_and]
  split
  · rename_i h
    have h := of_decide_eq_true h
    omega
  · rename_i h
    have h : ¬ _ := fun hh => h (decide_eq_true hh)
    omega
theorem bits_i64 : IntKind.i64.bits = 64 := rfl
theorem fdiv_ediv {a b : Int} (h : 0 ≤ b) : a.fdiv b = a / b := Int.fdiv_eq_ediv_of_nonneg a h
theorem tmod_emod {a b : Int} (h : 0 ≤ a) : a.tmod b = a % b := Int.tmod_eq_emod_of_nonneg h
def Bytes (b : List Int) : Prop := ∀ x ∈ b, 0 ≤ x ∧ x < 256
theorem Bytes.get {b : List Int} (h : Bytes b) (i : Nat) : 0 ≤ b.getD i 0 ∧ b.getD i 0 < 256 := by
  rw [List.getD_eq_getElem?_getD]
  cases hb : b[i]? with
  | none => simp
  | some x => simpa using h x (List.mem_of_getElem? hb)
end Go.Pl
/-
  Chapter 3 in plain words: the range decoder's register, and what rc's and ref3's functions come to.
  Conditions: none.
-/
namespace Go.Pl
open Go.Eng Go.Proofs
structure Q where
  rng : Int
  val : Int
  last : Int
  m : Nat
def nb (b : List Int) (m : Nat) : Int := b.getD m 0
theorem nb_range {b : List Int} (h : Bytes b) (m : Nat) : 0 ≤ nb b m ∧ nb b m < 256 := h.get m
def Q.step (b : List Int) (q : Q) : Q := ⟨q.rng * 256, q.val * 256 + 255 - ((q.last * 256 + nb b q.m) / 2) % 256, nb b q.m, q.m + 1⟩
def Q.norm (b : List Int) : Nat → Q → Q
  | 0, q => q
  | n + 1, q => if q.rng ≤ 8388608 then Q.norm b n (q.step b) else q
structure Q.Ok (q : Q) : Prop where
  r0 : 8388608 < q.rng
  r1 : q.rng ≤ 2147483648
  v0 : 0 ≤ q.val
  v1 : q.val < q.rng
  l0 : 0 ≤ q.last
  l1 : q.last < 256
structure Q.Pre (q : Q) : Prop where
  r0 : 1 ≤ q.rng
  r1 : q.rng ≤ 2147483648
  v0 : 0 ≤ q.val
  v1 : q.val < q.rng
  l0 : 0 ≤ q.last
  l1 : q.last < 256
theorem Q.Pre.step {b : List Int} {q : Q} (h : q.Pre) (hb : Bytes b) (hr : q.rng ≤ 8388608) : (q.step b).Pre := by
  obtain ⟨h1, h2, h3, h4, h5, h6⟩ := h
  obtain ⟨h7, h8⟩ := nb_range hb q.m
  exact ⟨by simp only [Q.step]; omega, by simp only [Q.step]; omega, by simp only [Q.step]; omega, by simp only [Q.step]; omega, h7, h8⟩
def Q.on (b : List Int) (q : Q) : Q := Q.norm b 4 q
theorem p8 : (2 : Int) ^ min (Int.toNat (8 : Int)) IntKind.u64.bits = 256 := rfl
theorem p1 : (2 : Int) ^ min (Int.toNat (1 : Int)) IntKind.u64.bits = 2 := rfl
def fr (b : List Int) (m : Nat) : Int := ((min m b.length : Nat) : Int)
end Go.Pl
/-
  Chapter 3 in plain words: to choose, to take, tables, symbols, flags.
  Conditions: none.
-/
namespace Go.Pl
open Go.Eng Go.Proofs
def Q.ch (q : Q) (ft : Int) : Int := ft - min (q.val / (q.rng / ft) + 1) ft
def Q.tk0 (q : Q) (fl fh ft : Int) : Q := ⟨if fl > 0 then q.rng / ft * (fh - fl) else q.rng - q.rng / ft * (ft - fh), q.val - q.rng / ft * (ft - fh), q.last, q.m⟩
def Q.tk (b : List Int) (q : Q) (fl fh ft : Int) : Q := (q.tk0 fl fh ft).on b
structure Takes (q : Q) (fl fh ft : Int) : Prop where
  f0 : 1 ≤ ft
  f1 : ft ≤ 65536
  a : 0 ≤ fl
  b : fl ≤ q.ch ft
  c : q.ch ft < fh
  d : fh ≤ ft
section
variable {N : Nat} {front back window waiting count : Int} {bad : Bool} {b : List Int}
end
section
variable {N : Nat} {front back wait waiting count eq : Int} {bad : Bool} {b : List Int}
end
structure GoodT (t : List Int) : Prop where
  n0 : 1 ≤ t.length
  n1 : t.length ≤ 256
  last : t.getD (t.length - 1) 0 = 0
  first : t.getD 0 0 < 256
  down : ∀ k, 1 ≤ k → k < t.length → t.getD k 0 < t.getD (k - 1) 0
theorem GoodT.le {t : List Int} (h : GoodT t) : ∀ (d k : Nat), k + d < t.length → t.getD (k + d) 0 + d ≤ t.getD k 0
  | 0, k, _ => by simp
  | d + 1, k, hk => by
    have h1 := h.le d k (by omega)
    have h2 := h.down (k + (d + 1)) (by omega) hk
    rw [show k + (d + 1) - 1 = k + d by omega] at h2
    omega
theorem GoodT.range {t : List Int} (h : GoodT t) {k : Nat} (hk : k < t.length) : 0 ≤ t.getD k 0 ∧ t.getD k 0 < 256 := by
  have h1 := h.le (t.length - 1 - k) k (by omega)
  have h2 := h.le k 0 (by omega)
  rw [show k + (t.length - 1 - k) = t.length - 1 by omega, h.last] at h1
  rw [Nat.zero_add] at h2
  have := h.first
  omega
def symK (t : List Int) (f : Int) : Nat → Nat → Nat
  | 0, k => k
  | n + 1, k => if 256 - t.getD k 0 ≤ f then symK t f n (k + 1) else k
def symL (t : List Int) (k : Nat) : Int := if k = 0 then 0 else 256 - t.getD (k - 1) 0
def Q.sk (q : Q) (t : List Int) : Nat := symK t (q.ch 256) t.length 0
def Q.sy (b : List Int) (q : Q) (t : List Int) : Q := q.tk b (symL t (q.sk t)) (256 - t.getD (q.sk t) 0) 256
section
variable {N : Nat} {back window waiting count : Int} {bad : Bool} {b : List Int}
end
section
variable {N : Nat} {back wait waiting count eq : Int} {bad : Bool} {b : List Int}
end
end Go.Pl
/-
  Chapter 3 in plain words: flags, bits from the end.
  Conditions: none.
-/
namespace Go.Pl
open Go.Eng Go.Proofs
theorem p2le {a b : Nat} (h : a ≤ b) : (2 : Int) ^ a ≤ 2 ^ b := by exact_mod_cast Nat.pow_le_pow_right (by omega) h
theorem p2pos (a : Nat) : (0 : Int) < 2 ^ a := by exact_mod_cast Nat.two_pow_pos a
def Q.fs (q : Q) (n : Int) : Int := q.rng / 2 ^ n.toNat
def Q.f0 (q : Q) (n : Int) : Q := if q.val < q.fs n then ⟨q.fs n, q.val, q.last, q.m⟩ else ⟨q.rng - q.fs n, q.val - q.fs n, q.last, q.m⟩
def Q.fl (b : List Int) (q : Q) (n : Int) : Q := (q.f0 n).on b
section
variable {N : Nat} {back window waiting count : Int} {bad : Bool} {b : List Int}
end
structure W where
  win : Int
  wai : Nat
  k : Nat
def eb (b : List Int) (k : Nat) : Int := if k < b.length then b.getD (b.length - 1 - k) 0 else 0
theorem eb_range {b : List Int} (h : Bytes b) (k : Nat) : 0 ≤ eb b k ∧ eb b k < 256 := by
  unfold eb
  split
  · exact h.get _
  · omega
def W.step (b : List Int) (w : W) : W := ⟨w.win + eb b w.k * 2 ^ w.wai, w.wai + 8, w.k + 1⟩
def W.fill (b : List Int) (n : Nat) : Nat → W → W
  | 0, w => w
  | f + 1, w => if w.wai < n then W.fill b n f (w.step b) else w
structure W.Ok (w : W) : Prop where
  a : 0 ≤ w.win
  b : w.win < 2 ^ w.wai
  c : w.wai ≤ 31
theorem W.Ok.step {b : List Int} (hb : Bytes b) {w : W} (h : w.Ok) (hw : w.wai < 24) : (w.step b).Ok := by
  obtain ⟨h1, h2, h3⟩ := h
  obtain ⟨h4, h5⟩ := eb_range hb w.k
  have h6 := p2pos w.wai
  have h7 : 0 ≤ eb b w.k * 2 ^ w.wai := Int.mul_nonneg h4 (by omega)
  have h8 : eb b w.k * 2 ^ w.wai ≤ 255 * 2 ^ w.wai := Int.mul_le_mul_of_nonneg_right (by omega) (by omega)
  refine ⟨by simp only [W.step]; omega, ?_, by simp only [W.step]; omega⟩
  simp only [W.step]
  rw [Int.pow_add]
  omega
theorem W.fill_n {b : List Int} {n : Nat} : ∀ (f : Nat) (w : W), n ≤ w.wai + 8 * f → n ≤ (W.fill b n f w).wai
  | 0, w, h => by simpa [W.fill] using h
  | f + 1, w, h => by
    simp only [W.fill]
    split
    · exact W.fill_n f _ (by simp only [W.step]; omega)
    · omega
def W.at (b : List Int) (w : W) (n : Nat) : W := W.fill b n 4 w
def W.val (b : List Int) (w : W) (n : Nat) : Int := (w.at b n).win % 2 ^ n
def W.next (b : List Int) (w : W) (n : Nat) : W := ⟨(w.at b n).win / 2 ^ n, (w.at b n).wai - n, (w.at b n).k⟩
section
variable {N : Nat} {rng val last front count : Int} {bad : Bool} {b : List Int}
end
end Go.Pl
/-
  Plain words: how many bits a number has; the code's two ways to count them.
  Conditions: none.
-/
namespace Go.Pl
open Go.Eng Go.Proofs
def bl (x : Int) : Int := if x ≤ 0 then 0 else (x.toNat.log2 : Int) + 1
section
variable {N : Nat} {val last front back window waiting count : Int} {bad : Bool} {b : List Int}
end
section
variable {N : Nat} {val last front back wait waiting count eq : Int} {bad : Bool} {b : List Int}
end
def Q.new0 (b : List Int) : Q := ⟨128, 127 - nb b 0 / 2, nb b 0, 1⟩
def Q.new (b : List Int) : Q := (Q.new0 b).on b
end Go.Pl
/-
  Plain words of chapter 3, those that hang on no law (taken out of the texts of L3 by split.py).
  Conditions: none.
-/
namespace Go.Pl
open Go.Eng Go.Proofs
def icdfT (n : Int) : List Int :=
  if n = 0 then [192, 96, 0] else if n = 1 then [224, 192, 160, 128, 96, 64, 32, 0] else
  if n = 2 then [252, 247, 240, 230, 214, 190, 150, 106, 66, 42, 26, 16, 10, 6, 4, 2, 0] else
  if n = 3 then [240, 224, 208, 192, 176, 160, 144, 128, 112, 96, 80, 64, 48, 32, 16, 0] else
  if n = 4 then [253, 244, 222, 170, 86, 34, 12, 3, 0] else
  if n = 5 then [218, 180, 148, 122, 100, 82, 67, 54, 43, 34, 26, 19, 14, 10, 6, 3, 0] else
  if n = 6 then [205, 163, 128, 97, 70, 44, 20, 0] else if n = 7 then [231, 155, 38, 0] else
  if n = 8 then [192, 128, 64, 0] else []
theorem good_of {t : List Int} (h : (1 ≤ t.length ∧ t.length ≤ 256 ∧ t.getD (t.length - 1) 0 = 0 ∧ t.getD 0 0 < 256) ∧ ∀ k, k < t.length → 1 ≤ k → t.getD k 0 < t.getD (k - 1) 0) : GoodT t :=
  ⟨h.1.1, h.1.2.1, h.1.2.2.1, h.1.2.2.2, fun k h1 h2 => h.2 k h2 h1⟩
theorem icdf_good {n : Int} (h0 : 0 ≤ n) (h1 : n ≤ 8) : GoodT (icdfT n) := by
  have : n = 0 ∨ n = 1 ∨ n = 2 ∨ n = 3 ∨ n = 4 ∨ n = 5 ∨ n = 6 ∨ n = 7 ∨ n = 8 := by omega
  rcases this with rfl | rfl | rfl | rfl | rfl | rfl | rfl | rfl | rfl <;> exact good_of (by decide)
def W.new : W := ⟨0, 0, 0⟩
def bitE (b : List Int) (p : Nat) : Int := (eb b (p / 8) / 2 ^ (p % 8)) % 2
theorem bitE_range (b : List Int) (p : Nat) : 0 ≤ bitE b p ∧ bitE b p < 2 := by unfold bitE; omega
def bsum (b : List Int) (P : Nat) : Nat → Int
  | 0 => 0
  | n + 1 => bsum b P n + bitE b (P + n) * 2 ^ n
theorem bsum_range (b : List Int) (P : Nat) : ∀ n, 0 ≤ bsum b P n ∧ bsum b P n < 2 ^ n
  | 0 => by simp [bsum]
  | n + 1 => by
    obtain ⟨h1, h2⟩ := bsum_range b P n
    obtain ⟨h3, h4⟩ := bitE_range b (P + n)
    have h5 := p2pos n
    have h6 : 0 ≤ bitE b (P + n) * 2 ^ n := Int.mul_nonneg h3 (by omega)
    have h7 : bitE b (P + n) * 2 ^ n ≤ 1 * 2 ^ n := Int.mul_le_mul_of_nonneg_right (by omega) (by omega)
    simp only [bsum, Int.pow_succ]
    omega
theorem bsum_split (b : List Int) (P a : Nat) : ∀ c, bsum b P (a + c) = bsum b P a + 2 ^ a * bsum b (P + a) c
  | 0 => by simp [bsum]
  | c + 1 => by
    rw [← Nat.add_assoc]
    simp only [bsum]
    rw [bsum_split b P a c, Int.pow_add, Nat.add_assoc P a c, Int.mul_add, ← Int.mul_assoc (2 ^ a), Int.mul_comm (2 ^ a) (bitE b _), Int.mul_assoc (bitE b _), Int.add_assoc]
theorem bsum_byte {b : List Int} (hb : Bytes b) (k : Nat) : bsum b (8 * k) 8 = eb b k := by
  obtain ⟨h1, h2⟩ := eb_range hb k
  simp only [bsum, bitE]
  rw [show (8 * k + 0) / 8 = k by omega, show (8 * k + 1) / 8 = k by omega, show (8 * k + 2) / 8 = k by omega, show (8 * k + 3) / 8 = k by omega, show (8 * k + 4) / 8 = k by omega, show (8 * k + 5) / 8 = k by omega, show (8 * k + 6) / 8 = k by omega, show (8 * k + 7) / 8 = k by omega]
  rw [show (8 * k + 0) % 8 = 0 by omega, show (8 * k + 1) % 8 = 1 by omega, show (8 * k + 2) % 8 = 2 by omega, show (8 * k + 3) % 8 = 3 by omega, show (8 * k + 4) % 8 = 4 by omega, show (8 * k + 5) % 8 = 5 by omega, show (8 * k + 6) % 8 = 6 by omega, show (8 * k + 7) % 8 = 7 by omega]
  generalize eb b k = x at h1 h2 ⊢
  have e0 : (2 : Int) ^ 0 = 1 := rfl
  have e1 : (2 : Int) ^ 1 = 2 := rfl
  have e2 : (2 : Int) ^ 2 = 4 := rfl
  have e3 : (2 : Int) ^ 3 = 8 := rfl
  have e4 : (2 : Int) ^ 4 = 16 := rfl
  have e5 : (2 : Int) ^ 5 = 32 := rfl
  have e6 : (2 : Int) ^ 6 = 64 := rfl
  have e7 : (2 : Int) ^ 7 = 128 := rfl
  rw [e0, e1, e2, e3, e4, e5, e6, e7]
  omega
structure W.At (b : List Int) (w : W) (P : Nat) : Prop where
  a : 8 * w.k = P + w.wai
  b : w.win = bsum b P w.wai
theorem W.At.step {b : List Int} (hb : Bytes b) {w : W} {P : Nat} (h : w.At b P) : (w.step b).At b P := by
  refine ⟨by have := h.a; simp only [W.step]; omega, ?_⟩
  simp only [W.step]
  rw [bsum_split, h.b, show P + w.wai = 8 * w.k by have := h.a; omega, bsum_byte hb, Int.mul_comm]
theorem W.At.fill {b : List Int} (hb : Bytes b) {P n : Nat} : ∀ (f : Nat) (w : W), w.At b P → (W.fill b n f w).At b P
  | 0, w, h => h
  | f + 1, w, h => by
    simp only [W.fill]
    split
    · exact W.At.fill hb f _ (h.step hb)
    · exact h
theorem W.At.next {b : List Int} (hb : Bytes b) {w : W} {P n : Nat} (h : w.At b P) (hn : n ≤ 24) : w.val b n = bsum b P n ∧ (w.next b n).At b (P + n) := by
  have hf := W.At.fill (n := n) hb 4 w h
  have h4 := W.fill_n (b := b) (n := n) 4 w (by omega)
  obtain ⟨r0, r1⟩ := bsum_range b P n
  have hp := p2pos n
  have e : (W.fill b n 4 w).win = bsum b P n + 2 ^ n * bsum b (P + n) ((W.fill b n 4 w).wai - n) := by
    rw [hf.b, ← bsum_split]
    congr 1
    omega
  refine ⟨?_, ⟨?_, ?_⟩⟩
  · unfold W.val W.at
    rw [e, Int.add_mul_emod_self_left, Int.emod_eq_of_lt r0 r1]
  · have := hf.a
    simp only [W.next, W.at]
    omega
  · simp only [W.next, W.at]
    rw [e, Int.add_mul_ediv_left _ _ (by omega), Int.ediv_eq_zero_of_lt r0 r1, Int.zero_add]
end Go.Pl
/-
  Plain words of chapter 3, those that hang on no law (taken out of the texts of L3 by split.py).
  Conditions: none.
-/
namespace Go.Pl
open Go.Eng Go.Proofs
def ub (ft : Int) : Nat := (bl (ft - 1) - 8).toNat
def uf (ft : Int) : Int := (ft - 1) / 2 ^ ub ft + 1
def Q.un (b : List Int) (q : Q) (ft : Int) : Q := if ft ≤ 256 then q.tk b (q.ch ft) (q.ch ft + 1) ft else q.tk b (q.ch (uf ft)) (q.ch (uf ft) + 1) (uf ft)
def uv (b : List Int) (q : Q) (w : W) (ft : Int) : Int := q.ch (uf ft) * 2 ^ ub ft + w.val b (ub ft)
section
variable {N : Nat} {count : Int} {bad : Bool} {b : List Int}
end
end Go.Pl
/-
  Chapter 3 in plain words: numbers that are small as a rule (rc's); the reference's flags, bits, numbers.
  Conditions: none.
-/
namespace Go.Pl
open Go.Eng Go.Proofs
structure Lp where
  l : Int
  v : Int
  s : Int
def Lp.step (decay : Int) (p : Lp) : Lp := ⟨p.l + 2 * p.s, p.v + 1, (2 * p.s - 2) * decay / 32768 + 1⟩
def Lp.run (decay f : Int) : Nat → Lp → Lp
  | 0, p => p
  | n + 1, p => if 1 < p.s ∧ p.l + 2 * p.s ≤ f then Lp.run decay f n (p.step decay) else p
structure Lp.Ok (f : Int) (p : Lp) : Prop where
  l0 : 0 ≤ p.l
  l1 : p.l ≤ f
  s0 : 1 ≤ p.s
  s1 : p.s ≤ 20000
  v0 : 0 ≤ p.v
  v1 : p.v ≤ p.l + 1
theorem Lp.Ok.step {decay f : Int} (d0 : 0 ≤ decay) (d1 : decay ≤ 16000) {p : Lp} (h : p.Ok f) (hs : 1 < p.s) (hf : p.l + 2 * p.s ≤ f) : (p.step decay).Ok f ∧ 0 ≤ (2 * p.s - 2) * decay ∧ (2 * p.s - 2) * decay ≤ (2 * p.s - 2) * 16000 := by
  obtain ⟨h1, h2, h3, h4, h5, h6⟩ := h
  have k1 : 0 ≤ (2 * p.s - 2) * decay := Int.mul_nonneg (by omega) d0
  have k2 : (2 * p.s - 2) * decay ≤ (2 * p.s - 2) * 16000 := Int.mul_le_mul_of_nonneg_left d1 (by omega)
  refine ⟨⟨by simp only [Lp.step]; omega, by simp only [Lp.step]; omega, by simp only [Lp.step]; omega, by simp only [Lp.step]; omega, by simp only [Lp.step]; omega, by simp only [Lp.step]; omega⟩, k1, k2⟩
def Lp.start (fs decay : Int) : Lp := ⟨fs, 1, (32736 - fs) * (16384 - decay) / 32768 + 1⟩
def lapEnd (f : Int) (p : Lp) : Lp :=
  let p2 : Lp := if p.s ≤ 1 then ⟨p.l + 2 * ((f - p.l) / 2), p.v + (f - p.l) / 2, p.s⟩ else p
  if f < p2.l + p2.s then ⟨p2.l, -p2.v, p2.s⟩ else ⟨p2.l + p2.s, p2.v, p2.s⟩
def lapAt (f fs decay : Int) : Lp := if f ≥ fs then lapEnd f (Lp.run decay f 8192 (Lp.start fs decay)) else ⟨0, 0, fs⟩
end Go.Pl
/-
  Chapter 3 in plain words: Laplace's numbers in the code, and the reference's flags, bits, numbers.
  Conditions: none.
-/
namespace Go.Pl
open Go.Eng Go.Proofs
def lapH (p : Lp) : Int := min (p.l + p.s) 32768
section
variable {N : Nat} {back window waiting count : Int} {bad : Bool} {b : List Int}
end
section
variable {N : Nat} {back wait waiting count eq : Int} {bad : Bool} {b : List Int}
end
end Go.Pl
/-
  Chapter 4 in plain words: bytes of numbers, the range encoder's register as whole numbers, what is written is read.
  Conditions: none.
-/
namespace Go.Pl
open Go.Eng
def tb : Nat → Int → List Int
  | 0, _ => []
  | k + 1, n => tb k (n / 256) ++ [n % 256]
def cp (b : List Int) : Nat → Int
  | 0 => 0
  | m + 1 => cp b m * 256 + nb b m
def le : Nat → Int → List Int
  | 0, _ => []
  | k + 1, n => n % 256 :: le k (n / 256)
structure E where
  k : Nat
  low : Int
  rng : Int
  r : Nat
  raw : Int
def E.told (e : E) : List Int := tb e.k (e.low / 2147483648)
def E.val (e : E) : Int := e.low % 2147483648
def E.bits (e : E) : List Int := le ((e.r + 7) / 8) e.raw
def E.count (e : E) : Int := 33 + 8 * (e.k : Int) + (e.r : Int)
structure E.Pre (e : E) : Prop where
  r0 : 1 ≤ e.rng
  r1 : e.rng ≤ 2147483648
  l0 : 0 ≤ e.low
  l1 : e.low + e.rng ≤ 2147483648 * 256 ^ e.k
  w0 : 0 ≤ e.raw
  w1 : e.raw < 2 ^ e.r
structure E.Ok (e : E) : Prop extends E.Pre e where
  g : 8388608 < e.rng
def E.step (e : E) : E := ⟨e.k + 1, e.low * 256, e.rng * 256, e.r, e.raw⟩
def E.norm : Nat → E → E
  | 0, e => e
  | n + 1, e => if e.rng ≤ 8388608 then E.norm n e.step else e
def E.on (e : E) : E := E.norm 4 e
theorem E.Pre.step {e : E} (h : e.Pre) (hr : e.rng ≤ 8388608) : e.step.Pre := by
  obtain ⟨h1, h2, h3, h4, h5, h6⟩ := h
  refine ⟨by simp only [E.step]; omega, by simp only [E.step]; omega, by simp only [E.step]; omega, ?_, h5, h6⟩
  simp only [E.step, Int.pow_succ]
  omega
theorem E.norm_same : ∀ (n : Nat) (e : E), (E.norm n e).r = e.r ∧ (E.norm n e).raw = e.raw ∧ e.k ≤ (E.norm n e).k ∧ (E.norm n e).k ≤ e.k + n
  | 0, e => by simp [E.norm]
  | n + 1, e => by
    simp only [E.norm]
    split
    · have := E.norm_same n e.step
      simp only [E.step] at this ⊢
      omega
    · simp
def E.tk0 (e : E) (fl fh ft : Int) : E :=
  if 0 < fl then ⟨e.k, e.low + (e.rng - e.rng / ft * (ft - fl)), e.rng / ft * (fh - fl), e.r, e.raw⟩
  else ⟨e.k, e.low, e.rng - e.rng / ft * (ft - fh), e.r, e.raw⟩
def E.tk (e : E) (fl fh ft : Int) : E := (e.tk0 fl fh ft).on
def E.f0 (e : E) (v : Bool) (n : Nat) : E :=
  if v then ⟨e.k, e.low + (e.rng - e.rng / 2 ^ n), e.rng / 2 ^ n, e.r, e.raw⟩ else ⟨e.k, e.low, e.rng - e.rng / 2 ^ n, e.r, e.raw⟩
def E.fl (e : E) (v : Bool) (n : Nat) : E := (e.f0 v n).on
def E.bt (e : E) (v : Int) (n : Nat) : E := ⟨e.k, e.low, e.rng, e.r + n, e.raw + v * 2 ^ e.r⟩
structure Place (fl fh ft : Int) : Prop where
  t0 : 1 ≤ ft
  t1 : ft ≤ 65536
  a : 0 ≤ fl
  b : fl < fh
  c : fh ≤ ft
def E.In (b : List Int) (e : E) : Prop := e.low ≤ cp b (e.k + 4) / 2 ∧ cp b (e.k + 4) / 2 < e.low + e.rng
def E.rd (b : List Int) (e : E) : Q := ⟨e.rng, e.low + e.rng - 1 - cp b (e.k + 4) / 2, nb b (e.k + 3), e.k + 4⟩
end Go.Pl
/-
  Chapter 4 in plain words: the bytes that are told at the end hold the code and the bits for the end.
  Conditions: none.
-/
namespace Go.Pl
open Go.Eng
structure E.Fit (b : List Int) (e : E) : Prop where
  i : e.In b
  s : bsum b 0 e.r = e.raw
theorem E.tk0_same (e : E) (fl fh ft : Int) : (e.tk0 fl fh ft).r = e.r ∧ (e.tk0 fl fh ft).raw = e.raw ∧ (e.tk0 fl fh ft).k = e.k := by unfold E.tk0; split <;> simp
theorem E.on_same (e : E) : e.on.r = e.r ∧ e.on.raw = e.raw ∧ e.k ≤ e.on.k ∧ e.on.k ≤ e.k + 4 := E.norm_same 4 e
theorem E.tk_same (e : E) (fl fh ft : Int) : (e.tk fl fh ft).r = e.r ∧ (e.tk fl fh ft).raw = e.raw ∧ e.k ≤ (e.tk fl fh ft).k ∧ (e.tk fl fh ft).k ≤ e.k + 4 := by
  have h1 := E.on_same (e.tk0 fl fh ft)
  have h2 := E.tk0_same e fl fh ft
  unfold E.tk
  rw [h2.1, h2.2.1, h2.2.2] at h1
  exact h1
end Go.Pl
/-
  Chapter 4 in plain words: what renc's functions come to (the register, symbols, flags, bits, numbers).
  Conditions: none.
-/
namespace Go.Pl
open Go.Eng Go.Proofs
section
variable {N : Nat}
structure E.Lim (N : Nat) (e : E) : Prop where
  k : e.k < 1099511627000
  r : e.r < 1099511627000
  N : e.k + 400 ≤ N
def E.sy (e : E) (s : Nat) (t : List Int) : E := e.tk (symL t s) (256 - t.getD s 0) 256
end
end Go.Pl
/-
  Chapter 4 in plain words: numbers below a bound, Tell, the end.
  Conditions: none.
-/
namespace Go.Pl
open Go.Eng Go.Proofs
def E.un (e : E) (v ft : Int) : E := if ft = 1 then e else if ft ≤ 256 then e.tk v (v + 1) ft else (e.tk (v / 2 ^ ub ft) (v / 2 ^ ub ft + 1) (uf ft)).bt (v % 2 ^ ub ft) (ub ft)
section
variable {N : Nat}
theorem E.Lim.tk {e : E} (hl : e.Lim (N + 4)) {fl fh ft : Int} (hk : e.k < 1099511626000) : (e.tk fl fh ft).Lim (N + 8) := by
  have := E.tk_same e fl fh ft
  obtain ⟨l1, l2, l3⟩ := hl
  exact ⟨by omega, by omega, by omega⟩
end
end Go.Pl
/-
  Chapter 4 in plain words: what Done tells.
  Conditions: none.
-/
namespace Go.Pl
open Go.Eng Go.Proofs
section
variable {N : Nat}
theorem E.all_eq (e : E) (h0 : 0 ≤ e.low) : e.told ++ [e.val / 8388608, e.val / 32768 % 256, e.val / 128 % 256, e.val * 2 % 256] = tb (e.k + 4) (2 * e.low) := by
  simp only [tb, E.told, E.val]
  rw [show 2 * e.low / 256 / 256 / 256 / 256 = e.low / 2147483648 by omega, show 2 * e.low / 256 / 256 / 256 % 256 = e.low % 2147483648 / 8388608 by omega, show 2 * e.low / 256 / 256 % 256 = e.low % 2147483648 / 32768 % 256 by omega,
    show 2 * e.low / 256 % 256 = e.low % 2147483648 / 128 % 256 by omega, show 2 * e.low % 256 = e.low % 2147483648 * 2 % 256 by omega]
  simp
end
end Go.Pl
/-
  Chapter 4 in plain words: numbers that are small as a rule.
  Conditions: none.
-/
namespace Go.Pl
open Go.Eng Go.Proofs
def Lp.it (decay : Int) : Nat → Lp → Lp
  | 0, p => p
  | n + 1, p => Lp.it decay n (p.step decay)
structure Lp.Sm (p : Lp) : Prop where
  s0 : 1 ≤ p.s
  s1 : p.s ≤ 20000
theorem Lp.Sm.step {decay : Int} (d0 : 0 ≤ decay) (d1 : decay ≤ 16000) {p : Lp} (h : p.Sm) : (p.step decay).Sm ∧ 0 ≤ (2 * p.s - 2) * decay ∧ (2 * p.s - 2) * decay ≤ (2 * p.s - 2) * 16000 := by
  obtain ⟨h3, h4⟩ := h
  have k1 : 0 ≤ (2 * p.s - 2) * decay := Int.mul_nonneg (by omega) d0
  have k2 : (2 * p.s - 2) * decay ≤ (2 * p.s - 2) * 16000 := Int.mul_le_mul_of_nonneg_left d1 (by omega)
  exact ⟨⟨by simp only [Lp.step]; omega, by simp only [Lp.step]; omega⟩, k1, k2⟩
theorem Lp.it_facts {decay : Int} (d0 : 0 ≤ decay) (d1 : decay ≤ 16000) : ∀ (n : Nat) (p : Lp), p.Sm → (Lp.it decay n p).Sm ∧ p.l + 2 * n ≤ (Lp.it decay n p).l ∧ (Lp.it decay n p).v = p.v + n
  | 0, p, h => ⟨h, by simp [Lp.it], by simp [Lp.it]⟩
  | n + 1, p, h => by
    obtain ⟨h1, h2, h3⟩ := Lp.it_facts d0 d1 n (p.step decay) (h.step d0 d1).1
    have := h.s0
    simp only [Lp.it]
    refine ⟨h1, ?_, ?_⟩
    · simp only [Lp.step] at h2; simp only [Lp.step]; omega
    · simp only [Lp.step] at h3; simp only [Lp.step]; omega
theorem Lp.it_one {decay : Int} : ∀ (n : Nat) (p : Lp), p.s = 1 → Lp.it decay n p = ⟨p.l + 2 * n, p.v + n, 1⟩
  | 0, p, h => by cases p; simp at h; subst h; simp [Lp.it]
  | n + 1, p, h => by
    have hs : p.step decay = ⟨p.l + 2, p.v + 1, 1⟩ := by simp [Lp.step, h]
    simp only [Lp.it]
    rw [hs, Lp.it_one n _ rfl, Lp.mk.injEq]
    exact ⟨by simp only; omega, by simp only; omega, rfl⟩
def lapOf (f : Int) (p : Lp) : Lp := if f < p.l + p.s then ⟨p.l, -p.v, p.s⟩ else ⟨p.l + p.s, p.v, p.s⟩
theorem lap_it {decay f : Int} (d0 : 0 ≤ decay) (d1 : decay ≤ 16000) : ∀ (i n : Nat) (p : Lp), p.Sm → f < p.l + 4 * n → (Lp.it decay i p).l ≤ f → f < (Lp.it decay i p).l + 2 * (Lp.it decay i p).s →
    lapEnd f (Lp.run decay f n p) = lapOf f (Lp.it decay i p)
  | 0, n, p, h, hn, h1, h2 => by
    simp only [Lp.it] at h1 h2 ⊢
    have hr : Lp.run decay f n p = p := by
      cases n with
      | zero => rfl
      | succ n => simp only [Lp.run]; rw [if_neg (by omega)]
    rw [hr]
    unfold lapEnd lapOf
    have := h.s0
    by_cases hs : p.s ≤ 1
    · have e1 : (f - p.l) / 2 = 0 := by omega
      simp only [if_pos hs, e1]
      simp
    · simp only [if_neg hs]
  | i + 1, 0, p, h, hn, h1, h2 => by
    have := (Lp.it_facts d0 d1 (i + 1) p h).2.1
    omega
  | i + 1, n + 1, p, h, hn, h1, h2 => by
    obtain ⟨g1, g2, g3⟩ := Lp.it_facts d0 d1 i (p.step decay) (h.step d0 d1).1
    simp only [Lp.it] at h1 h2
    have hs0 := h.s0
    by_cases hs : 1 < p.s
    · have el : (p.step decay).l = p.l + 2 * p.s := rfl
      have : p.l + 2 * p.s ≤ f := by omega
      simp only [Lp.run]
      rw [if_pos ⟨hs, this⟩]
      exact lap_it d0 d1 i n _ (h.step d0 d1).1 (by rw [el]; omega) h1 h2
    · have h1s : p.s = 1 := by omega
      have hr : Lp.run decay f (n + 1) p = p := by simp only [Lp.run]; rw [if_neg (by omega)]
      have hi := Lp.it_one (decay := decay) (i + 1) p h1s
      simp only [Lp.it] at hi
      rw [hi] at h1 h2
      simp only [Lp.it]
      rw [hr, hi]
      simp only at h1 h2
      have e1 : (f - p.l) / 2 = ((i + 1 : Nat) : Int) := by omega
      unfold lapEnd lapOf
      simp only [e1, h1s, Int.le_refl, if_true]
def plR (decay up sg : Int) (i : Nat) (p : Lp) : Int × Int × Int :=
  (sg * (Lp.it decay i p).v, (Lp.it decay i p).l + up * (Lp.it decay i p).s, min ((Lp.it decay i p).l + up * (Lp.it decay i p).s + (Lp.it decay i p).s) 32768)
def plOut (decay up : Int) (i : Nat) (p : Lp) : Prop := (Lp.it decay i p).l + up * (Lp.it decay i p).s ≥ 32768
theorem start_sm {fs decay : Int} (h0 : 256 ≤ fs) (h1 : fs ≤ 28000) (d0 : 0 ≤ decay) (d1 : decay ≤ 16000) : (Lp.start fs decay).Sm ∧ (Lp.start fs decay).l + (Lp.start fs decay).s < 32768 ∧ 0 ≤ (32736 - fs) * (16384 - decay) ∧ (32736 - fs) * (16384 - decay) ≤ (32736 - fs) * 16384 := by
  have k1 : 0 ≤ (32736 - fs) * (16384 - decay) := Int.mul_nonneg (by omega) (by omega)
  have k2 : (32736 - fs) * (16384 - decay) ≤ (32736 - fs) * 16384 := Int.mul_le_mul_of_nonneg_left (by omega) (by omega)
  exact ⟨⟨by simp only [Lp.start]; omega, by simp only [Lp.start]; omega⟩, by simp only [Lp.start]; omega, k1, k2⟩
structure Lap (fs decay v : Int) (r : Int × Int × Int) : Prop where
  z : v = 0 → r = (0, 0, fs)
  nz : v ≠ 0 → ∃ (up sg : Int) (i : Nat), (0 < v ∧ up = 1 ∧ sg = 1 ∨ v < 0 ∧ up = 0 ∧ sg = -1) ∧ i < 16300 ∧ (∀ j, j ≤ i → ¬ plOut decay up j (Lp.start fs decay)) ∧ 1 + (i : Int) ≤ sg * v ∧ (1 + (i : Int) = sg * v ∨ plOut decay up (i + 1) (Lp.start fs decay)) ∧ r = plR decay up sg i (Lp.start fs decay)
theorem Lap.place {fs decay v : Int} {r : Int × Int × Int} (h0 : 256 ≤ fs) (h1 : fs ≤ 28000) (d0 : 0 ≤ decay) (d1 : decay ≤ 16000) (h : Lap fs decay v r) :
    Place r.2.1 r.2.2 32768 ∧ (∀ f, r.2.1 ≤ f → f < r.2.2 → (lapAt f fs decay).l = r.2.1 ∧ lapH (lapAt f fs decay) = r.2.2 ∧ (lapAt f fs decay).v = r.1) ∧ (0 ≤ v → 0 ≤ r.1 ∧ r.1 ≤ v) ∧ (v ≤ 0 → r.1 ≤ 0 ∧ v ≤ r.1) := by
  obtain ⟨sm, sl, _, _⟩ := start_sm h0 h1 d0 d1
  by_cases hz : v = 0
  · rw [h.z hz]
    refine ⟨⟨by omega, by omega, by simp only; omega, by simp only; omega, by simp only; omega⟩, fun f f0 f1 => ?_, fun _ => by simp only; omega, fun _ => by simp only; omega⟩
    simp only at f0 f1
    unfold lapAt
    rw [if_neg (by omega)]
    refine ⟨rfl, ?_, rfl⟩
    unfold lapH
    simp only
    omega
  · obtain ⟨up, sg, i, hu, hi, i1, i2, i3, rfl⟩ := h.nz hz
    obtain ⟨g1, g2, g3⟩ := Lp.it_facts d0 d1 i (Lp.start fs decay) sm
    have hno := i1 i (Nat.le_refl _)
    unfold plOut at hno
    have hv : (Lp.start fs decay).v = 1 := rfl
    have hl : (Lp.start fs decay).l = fs := rfl
    obtain ⟨s0, s1⟩ := g1
    unfold plR
    have hus : 0 ≤ up * (Lp.it decay i (Lp.start fs decay)).s ∧ up * (Lp.it decay i (Lp.start fs decay)).s ≤ (Lp.it decay i (Lp.start fs decay)).s := by
      rcases hu with ⟨_, rfl, _⟩ | ⟨_, rfl, _⟩ <;> simp <;> omega
    refine ⟨⟨by omega, by omega, by simp only; omega, by simp only; omega, by simp only; omega⟩, fun f f0 f1 => ?_, fun hp => ?_, fun hp => ?_⟩
    · simp only at f0 f1 ⊢
      have hf : f < (Lp.it decay i (Lp.start fs decay)).l + 2 * (Lp.it decay i (Lp.start fs decay)).s := by omega
      unfold lapAt
      rw [if_pos (show f ≥ fs by omega), lap_it d0 d1 i 8192 (Lp.start fs decay) sm (by omega) (by omega) hf]
      unfold lapOf lapH
      rcases hu with ⟨_, rfl, rfl⟩ | ⟨_, rfl, rfl⟩
      · simp only [Int.one_mul] at f0 f1 ⊢
        rw [if_neg (by omega)]
        simp
      · simp only [Int.zero_mul, Int.add_zero] at f0 f1 ⊢
        rw [if_pos (by omega)]
        simp only [true_and]
        omega
    · rcases hu with ⟨_, rfl, rfl⟩ | ⟨hn, _⟩
      · simp only [Int.one_mul] at i2 ⊢; omega
      · omega
    · rcases hu with ⟨hn, _⟩ | ⟨_, rfl, rfl⟩
      · omega
      · simp only at i2 ⊢; omega
end Go.Pl
/-
  Chapter 4 in plain words: each writing, and what a reader finds of it.
  Conditions: none.
-/
namespace Go.Pl
open Go.Eng Go.Proofs
structure E.Low (e : E) : Prop where
  k : e.k ≤ 10000
  r : e.r ≤ 100000
def E.new : E := ⟨0, 0, 2147483648, 0, 0⟩
section
variable {N : Nat}
end
section
variable {b : List Int} {e : E}
end
end Go.Pl
