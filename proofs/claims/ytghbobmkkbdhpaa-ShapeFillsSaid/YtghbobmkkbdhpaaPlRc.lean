/-
  Chapter 3 in plain words: the range decoder's register, and what rc's and ref3's functions come to.
  Conditions: none.
-/
import Derived.Test.YtghbobmkkbdhpaaPlBase
import Derived.Test.YtghbobmkkbdhpaaRcFns
set_option linter.unusedSimpArgs false
set_option linter.unusedVariables false
namespace Go.Pl
open Go.Eng Go.Proofs

/-! ### The register -/
/-- The range, the value, the byte last read, how many bytes were asked for. -/
structure Q where
  rng : Int
  val : Int
  last : Int
  m : Nat

/-- A byte; behind the end all is nought. -/
def nb (b : List Int) (m : Nat) : Int := b.getD m 0

theorem nb_range {b : List Int} (h : Bytes b) (m : Nat) : 0 ≤ nb b m ∧ nb b m < 256 := h.get m

def Q.step (b : List Int) (q : Q) : Q := ⟨q.rng * 256, q.val * 256 + 255 - ((q.last * 256 + nb b q.m) / 2) % 256, nb b q.m, q.m + 1⟩

def Q.norm (b : List Int) : Nat → Q → Q
  | 0, q => q
  | n + 1, q => if q.rng ≤ 8388608 then Q.norm b n (q.step b) else q

/-- Between calls. -/
structure Q.Ok (q : Q) : Prop where
  r0 : 8388608 < q.rng
  r1 : q.rng ≤ 2147483648
  v0 : 0 ≤ q.val
  v1 : q.val < q.rng
  l0 : 0 ≤ q.last
  l1 : q.last < 256

/-- While it goes on. -/
structure Q.Pre (q : Q) : Prop where
  r0 : 1 ≤ q.rng
  r1 : q.rng ≤ 2147483648
  v0 : 0 ≤ q.val
  v1 : q.val < q.rng
  l0 : 0 ≤ q.last
  l1 : q.last < 256

theorem Q.Pre.step {b : List Int} {q : Q} (h : q.Pre) (hb : Bytes b) (hr : q.rng ≤ 8388608) : (q.step b).Pre := by
  obtain ⟨h1, h2, h3, h4, h5, h6⟩ := h
  obtain ⟨h7, h8⟩ := nb_range hb q.m
  exact ⟨by simp only [Q.step]; omega, by simp only [Q.step]; omega, by simp only [Q.step]; omega, by simp only [Q.step]; omega, h7, h8⟩

theorem Q.norm_ok {b : List Int} (hb : Bytes b) : ∀ (n : Nat) (q : Q), q.Pre → 8388608 < q.rng * 256 ^ n → (Q.norm b n q).Ok
  | 0, q, h, hn => ⟨by simpa [Q.norm] using hn, h.r1, h.v0, h.v1, h.l0, h.l1⟩
  | n + 1, q, h, hn => by
    simp only [Q.norm]
    split
    · rename_i hr
      refine Q.norm_ok hb n _ (h.step hb hr) ?_
      simp only [Q.step]
      rw [Int.pow_succ] at hn
      rw [Int.mul_assoc, Int.mul_comm 256]
      exact hn
    · rename_i hr
      exact ⟨by omega, h.r1, h.v0, h.v1, h.l0, h.l1⟩

/-- To go on. -/
def Q.on (b : List Int) (q : Q) : Q := Q.norm b 4 q

theorem Q.on_ok {b : List Int} (hb : Bytes b) {q : Q} (h : q.Pre) : (q.on b).Ok := Q.norm_ok hb 4 q h (by have := h.r0; omega)

theorem Q.norm_m (b : List Int) : ∀ (n : Nat) (q : Q), q.m ≤ (Q.norm b n q).m ∧ (Q.norm b n q).m ≤ q.m + n
  | 0, q => ⟨Nat.le_refl _, Nat.le_refl _⟩
  | n + 1, q => by
    simp only [Q.norm]
    split
    · have := Q.norm_m b n (q.step b)
      simp only [Q.step] at this ⊢
      omega
    · omega

theorem Q.on_m (b : List Int) (q : Q) : q.m ≤ (q.on b).m ∧ (q.on b).m ≤ q.m + 4 := Q.norm_m b 4 q

theorem Q.norm_stop (b : List Int) {q : Q} (h : 8388608 < q.rng) : ∀ n, Q.norm b n q = q
  | 0 => rfl
  | n + 1 => by simp only [Q.norm]; rw [if_neg (by omega)]

theorem Q.norm_more (b : List Int) : ∀ (n k : Nat) (q : Q), 1 ≤ q.rng → 8388608 < q.rng * 256 ^ n → Q.norm b (n + k) q = Q.norm b n q
  | 0, k, q, _, h => by rw [Nat.zero_add]; exact Q.norm_stop b (by simpa using h) k
  | n + 1, k, q, h1, h => by
    rw [show n + 1 + k = (n + k) + 1 by omega]
    simp only [Q.norm]
    split
    · refine Q.norm_more b n k _ (by simp only [Q.step]; omega) ?_
      simp only [Q.step]
      rw [Int.pow_succ] at h
      rw [Int.mul_assoc, Int.mul_comm 256]
      exact h
    · rfl

/-! ### What the code says in its words -/
theorem p8 : (2 : Int) ^ min (Int.toNat (8 : Int)) IntKind.u64.bits = 256 := rfl
theorem p1 : (2 : Int) ^ min (Int.toNat (1 : Int)) IntKind.u64.bits = 2 := rfl

theorem or8 {a c : Int} (ha : 0 ≤ a) (ha' : a < 72057594037927936) (hc : 0 ≤ c) (hc' : c < 256) : ((BitVec.ofInt 64 (a * 256) ||| BitVec.ofInt 64 c).toNat : Int) = a * 256 + c :=
  or_add (w := 64) (k := 8) ha (by show a * 256 < 18446744073709551616; omega) hc hc' (by omega)
theorem and255 {a : Int} (ha : 0 ≤ a) (ha' : a < 18446744073709551616) : ((BitVec.ofInt 64 a &&& BitVec.ofInt 64 255).toNat : Int) = a % 256 :=
  and_mask (w := 64) (k := 8) ha ha' rfl (by omega)
theorem and31 {a : Int} (ha : 0 ≤ a) (ha' : a < 18446744073709551616) : ((BitVec.ofInt 64 a &&& BitVec.ofInt 64 2147483647).toNat : Int) = a % 2147483648 :=
  and_mask (w := 64) (k := 31) ha ha' rfl (by omega)

/-- The front, of m bytes that were asked for. -/
def fr (b : List Int) (m : Nat) : Int := ((min m b.length : Nat) : Int)

theorem next_F {N : Nat} {rng val last back window waiting count : Int} {bad : Bool} {b : List Int} (hb : Bytes b) (hl : b.length < 1099511627776) (m : Nat) :
    Rc.next.F N rng val last (fr b m) back window waiting count bad b = some (nb b m, fr b (m + 1)) := by
  unfold Rc.next.F fr
  simp only [br_dec, chkI_same, chkB_same, chkL_same]
  by_cases h : m < b.length
  · have e1 : min m b.length = m := by omega
    have e2 : min (m + 1) b.length = m + 1 := by omega
    rw [e1, e2, if_neg (by omega), i64 (x := (m : Int) + 1) (by omega) (by omega), i64 (by omega) (by omega), chk_pos (by omega)]
    have e3 : ((m : Int) + 1 - 1).toNat = m := by omega
    obtain ⟨h1, h2⟩ := nb_range hb m
    unfold nb at h1 h2 ⊢
    rw [e3, u64 h1 (by omega)]
    rfl
  · have e1 : min m b.length = b.length := by omega
    have e2 : min (m + 1) b.length = b.length := by omega
    rw [e1, e2, if_pos (by omega)]
    unfold nb
    rw [getD_out (by omega)]

/-- A step's value, in the code's words. -/
theorem step_val {val last x : Int} (h0 : 0 ≤ val) (h1 : val < 8388608) (l0 : 0 ≤ last) (l1 : last < 256) (x0 : 0 ≤ x) (x1 : x < 256) :
    IntKind.u64.wrap ↑(BitVec.ofInt IntKind.u64.bits (IntKind.u64.wrap (IntKind.u64.wrap (IntKind.u64.wrap (val * 256) + 255) - IntKind.u64.wrap ↑(BitVec.ofInt IntKind.u64.bits ((IntKind.u64.wrap ↑(BitVec.ofInt IntKind.u64.bits (IntKind.u64.wrap (last * 256)) ||| BitVec.ofInt IntKind.u64.bits x).toNat).fdiv 2) &&& BitVec.ofInt IntKind.u64.bits 255).toNat)) &&& BitVec.ofInt IntKind.u64.bits 2147483647).toNat =
      val * 256 + 255 - ((last * 256 + x) / 2) % 256 := by
  rw [bits_u64, u64 (x := last * 256) (by omega) (by omega), or8 l0 (by omega) x0 x1, u64 (x := last * 256 + x) (by omega) (by omega), fdiv_ediv (by omega), and255 (by omega) (by omega),
    u64 (x := (last * 256 + x) / 2 % 256) (by omega) (by omega), u64 (x := val * 256) (by omega) (by omega), u64 (x := val * 256 + 255) (by omega) (by omega), u64 (x := val * 256 + 255 - _) (by omega) (by omega),
    and31 (by omega) (by omega), u64 (by omega) (by omega)]
  omega

theorem norm_loop {N : Nat} {back window waiting : Int} {bad : Bool} {b : List Int} (hb : Bytes b) (hl : b.length < 1099511627776) :
    ∀ (nn n : Nat) (q : Q) (count : Int), q.Pre → 8388608 < q.rng * 256 ^ n → 0 ≤ count → count + 8 * n < 2199023255552 → n < nn →
      Rc.norm.loop0 N nn back window waiting bad b q.rng q.val q.last (fr b q.m) count =
        some ((Q.norm b n q).rng, (Q.norm b n q).val, (Q.norm b n q).last, fr b (Q.norm b n q).m, count + 8 * (((Q.norm b n q).m - q.m : Nat) : Int))
  | 0, n, q, count, h, hn, hc0, hc1, h0 => by omega
  | nn + 1, n, q, count, h, hn, hc0, hc1, h0 => by
    unfold Rc.norm.loop0
    simp only [br_dec, chkI_same, chkB_same, chkL_same, next_F hb hl, obind_of, p8, p1]
    by_cases hr : q.rng ≤ 8388608
    · rw [if_pos hr]
      cases n with
      | zero => simp at hn; omega
      | succ n =>
        have hs := h.step hb hr
        have ih := norm_loop (N := N) (back := back) (window := window) (waiting := waiting) (bad := bad) hb hl nn n (q.step b) (count + 8) hs (by
          simp only [Q.step]
          rw [Int.pow_succ] at hn
          rw [Int.mul_assoc, Int.mul_comm 256]
          exact hn) (by omega) (by omega) (by omega)
        obtain ⟨h1, h2, h3, h4, h5, h6⟩ := h
        obtain ⟨h7, h8⟩ := nb_range hb q.m
        have hm := Q.norm_m b n (q.step b)
        rw [step_val h3 (by omega) h5 h6 h7 h8, u64 (by omega) (by omega), i64 (by omega) (by omega)]
        simp only [Q.step] at ih hm ⊢
        rw [ih]
        simp only [Q.norm, if_pos hr, Q.step]
        congr 5
        omega
    · rw [if_neg hr]
      have hs := Q.norm_stop b (q := q) (by omega) n
      rw [hs]
      simp

/-- rc's normalise. -/
theorem norm_F {N : Nat} {back window waiting count : Int} {bad : Bool} {b : List Int} (hb : Bytes b) (hl : b.length < 1099511627776) {q : Q} (h : q.Pre) (hc0 : 0 ≤ count) (hc1 : count < 1099511627776) (hN : 8 ≤ N) :
    Rc.norm.F N q.rng q.val q.last (fr b q.m) back window waiting count bad b =
      some ((q.on b).rng, (q.on b).val, (q.on b).last, fr b (q.on b).m, count + 8 * (((q.on b).m - q.m : Nat) : Int)) := by
  unfold Rc.norm.F
  rw [norm_loop hb hl N 4 q count h (by have := h.r0; omega) hc0 (by omega) (by omega)]
  simp only [obind_of, chkI_same, chkB_same, chkL_same]
  rfl
end Go.Pl
