/-
  Chapter 3 in plain words: flags, bits from the end.
  Conditions: none.
-/
import Derived.Test.YtghbobmkkbdhpaaPlRc2
set_option linter.unusedSimpArgs false
set_option linter.unusedVariables false
namespace Go.Pl
open Go.Eng Go.Proofs

theorem p2le {a b : Nat} (h : a ≤ b) : (2 : Int) ^ a ≤ 2 ^ b := by exact_mod_cast Nat.pow_le_pow_right (by omega) h
theorem p2pos (a : Nat) : (0 : Int) < 2 ^ a := by exact_mod_cast Nat.two_pow_pos a
theorem fr_step (b : List Int) (m : Nat) : fr b m = ((min m b.length : Nat) : Int) := rfl

/-! ### Flags -/
def Q.fs (q : Q) (n : Int) : Int := q.rng / 2 ^ n.toNat
def Q.fv (q : Q) (n : Int) : Bool := decide (q.val < q.fs n)
def Q.f0 (q : Q) (n : Int) : Q := if q.val < q.fs n then ⟨q.fs n, q.val, q.last, q.m⟩ else ⟨q.rng - q.fs n, q.val - q.fs n, q.last, q.m⟩
def Q.fl (b : List Int) (q : Q) (n : Int) : Q := (q.f0 n).on b

theorem Q.fs_range {q : Q} (h : q.Ok) {n : Int} (n0 : 1 ≤ n) (n1 : n ≤ 15) : 1 ≤ q.fs n ∧ 2 * q.fs n ≤ q.rng := by
  have h1 := p2pos n.toNat
  have h2 : (2 : Int) ^ n.toNat ≤ 32768 := p2le (a := n.toNat) (b := 15) (by omega)
  have h3 : (2 : Int) ≤ 2 ^ n.toNat := p2le (a := 1) (b := n.toNat) (by omega)
  have hr := h.r0
  have h4 := Int.ediv_mul_le q.rng (show (2 : Int) ^ n.toNat ≠ 0 by omega)
  unfold Q.fs
  generalize (2 : Int) ^ n.toNat = D at *
  have h5 : 1 ≤ q.rng / D := by rw [Int.le_ediv_iff_mul_le (by omega)]; omega
  have h6 : q.rng / D * 2 ≤ q.rng / D * D := Int.mul_le_mul_of_nonneg_left h3 (by omega)
  omega

theorem Q.f0_pre {q : Q} (h : q.Ok) {n : Int} (n0 : 1 ≤ n) (n1 : n ≤ 15) : (q.f0 n).Pre := by
  obtain ⟨k1, k2⟩ := q.fs_range h n0 n1
  obtain ⟨h1, h2, h3, h4, h5, h6⟩ := h
  unfold Q.f0
  split
  · exact ⟨by simp only; omega, by simp only; omega, h3, by simp only; omega, h5, h6⟩
  · exact ⟨by simp only; omega, by simp only; omega, by simp only; omega, by simp only; omega, h5, h6⟩

theorem Q.fl_ok {b : List Int} (hb : Bytes b) {q : Q} (h : q.Ok) {n : Int} (n0 : 1 ≤ n) (n1 : n ≤ 15) : (q.fl b n).Ok := Q.on_ok hb (q.f0_pre h n0 n1)
theorem Q.f0_m (q : Q) (n : Int) : (q.f0 n).m = q.m := by unfold Q.f0; split <;> rfl
theorem Q.fl_m (b : List Int) (q : Q) (n : Int) : q.m ≤ (q.fl b n).m ∧ (q.fl b n).m ≤ q.m + 4 := by
  have := Q.on_m b (q.f0 n)
  rw [q.f0_m] at this
  exact this

section
variable {N : Nat} {back window waiting count : Int} {bad : Bool} {b : List Int}

end

/-! ### Bits from the end -/
structure W where
  win : Int
  wai : Nat
  k : Nat

/-- The byte number k from the end; behind the first one all is nought. -/
def eb (b : List Int) (k : Nat) : Int := if k < b.length then b.getD (b.length - 1 - k) 0 else 0

theorem eb_range {b : List Int} (h : Bytes b) (k : Nat) : 0 ≤ eb b k ∧ eb b k < 256 := by
  unfold eb
  split
  · exact h.get _
  · omega

def W.step (b : List Int) (w : W) : W := ⟨w.win + eb b w.k * 2 ^ w.wai, w.wai + 8, w.k + 1⟩
def W.fill (b : List Int) (n : Nat) : Nat → W → W
  | 0, w => w
  | f + 1, w => if w.wai < n then W.fill b n f (w.step b) else w

structure W.Ok (w : W) : Prop where
  a : 0 ≤ w.win
  b : w.win < 2 ^ w.wai
  c : w.wai ≤ 31

theorem W.Ok.step {b : List Int} (hb : Bytes b) {w : W} (h : w.Ok) (hw : w.wai < 24) : (w.step b).Ok := by
  obtain ⟨h1, h2, h3⟩ := h
  obtain ⟨h4, h5⟩ := eb_range hb w.k
  have h6 := p2pos w.wai
  have h7 : 0 ≤ eb b w.k * 2 ^ w.wai := Int.mul_nonneg h4 (by omega)
  have h8 : eb b w.k * 2 ^ w.wai ≤ 255 * 2 ^ w.wai := Int.mul_le_mul_of_nonneg_right (by omega) (by omega)
  refine ⟨by simp only [W.step]; omega, ?_, by simp only [W.step]; omega⟩
  simp only [W.step]
  rw [Int.pow_add]
  omega

theorem W.fill_ok {b : List Int} (hb : Bytes b) {n : Nat} (hn : n ≤ 24) : ∀ (f : Nat) (w : W), w.Ok → (W.fill b n f w).Ok
  | 0, w, h => h
  | f + 1, w, h => by
    simp only [W.fill]
    split
    · exact W.fill_ok hb hn f _ (h.step hb (by omega))
    · exact h

theorem W.fill_n {b : List Int} {n : Nat} : ∀ (f : Nat) (w : W), n ≤ w.wai + 8 * f → n ≤ (W.fill b n f w).wai
  | 0, w, h => by simpa [W.fill] using h
  | f + 1, w, h => by
    simp only [W.fill]
    split
    · exact W.fill_n f _ (by simp only [W.step]; omega)
    · omega

def W.at (b : List Int) (w : W) (n : Nat) : W := W.fill b n 4 w
def W.val (b : List Int) (w : W) (n : Nat) : Int := (w.at b n).win % 2 ^ n
def W.next (b : List Int) (w : W) (n : Nat) : W := ⟨(w.at b n).win / 2 ^ n, (w.at b n).wai - n, (w.at b n).k⟩

theorem W.next_ok {b : List Int} (hb : Bytes b) {w : W} (h : w.Ok) {n : Nat} (hn : n ≤ 24) : (w.next b n).Ok := by
  obtain ⟨h1, h2, h3⟩ := W.fill_ok hb hn 4 w h
  have h4 := W.fill_n (b := b) (n := n) 4 w (by omega)
  unfold W.next W.at
  refine ⟨Int.ediv_nonneg h1 (by have := p2pos n; omega), ?_, by simp only; omega⟩
  simp only
  rw [Int.ediv_lt_iff_lt_mul (p2pos n), ← Int.pow_add, show (W.fill b n 4 w).wai - n + n = (W.fill b n 4 w).wai by omega]
  exact h2

theorem W.val_range {b : List Int} (w : W) (n : Nat) : 0 ≤ w.val b n ∧ w.val b n < 2 ^ n :=
  ⟨Int.emod_nonneg _ (by have := p2pos n; omega), Int.emod_lt_of_pos _ (p2pos n)⟩

/-- A byte more, in the code's words. -/
theorem or_win {win x : Int} {wai : Nat} (h0 : 0 ≤ win) (h1 : win < 2 ^ wai) (hw : wai < 24) (x0 : 0 ≤ x) (x1 : x < 256) :
    IntKind.u64.wrap ↑(BitVec.ofInt IntKind.u64.bits win ||| BitVec.ofInt IntKind.u64.bits (IntKind.u64.wrap (x * 2 ^ min wai IntKind.u64.bits))).toNat = win + x * 2 ^ wai := by
  have h6 := p2pos wai
  have h7 : (2 : Int) ^ wai ≤ 16777216 := p2le (a := wai) (b := 24) (by omega)
  have h8 : 0 ≤ x * 2 ^ wai := Int.mul_nonneg x0 (by omega)
  have h9 : x * 2 ^ wai ≤ 255 * 2 ^ wai := Int.mul_le_mul_of_nonneg_right (by omega) (by omega)
  rw [bits_u64, show min wai 64 = wai by omega, u64 (x := x * 2 ^ wai) h8 (by omega), or_comm', or_add x0 (by show x * 2 ^ wai < 18446744073709551616; omega) h0 h1 (by omega), u64 (by omega) (by omega)]
  omega

section
variable {N : Nat} {rng val last front count : Int} {bad : Bool} {b : List Int}

theorem endb_F {window waiting : Int} (hb : Bytes b) (hl : b.length < 1099511627776) (k : Nat) :
    Rc.endb.F N rng val last front (fr b k) window waiting count bad b = some (eb b k, fr b (k + 1)) := by
  unfold Rc.endb.F fr
  simp only [br_dec, chkI_same, chkB_same, chkL_same]
  by_cases h : k < b.length
  · rw [show min k b.length = k by omega, show min (k + 1) b.length = k + 1 by omega, if_neg (by omega), i64 (x := (k : Int) + 1) (by omega) (by omega), i64 (x := (b.length : Int) - _) (by omega) (by omega), chk_pos (by omega)]
    obtain ⟨h1, h2⟩ := eb_range hb k
    unfold eb at h1 h2 ⊢
    rw [if_pos h] at h1 h2 ⊢
    rw [show ((b.length : Int) - ((k : Int) + 1)).toNat = b.length - 1 - k by omega, u64 h1 (by omega)]
    rfl
  · rw [show min k b.length = b.length by omega, show min (k + 1) b.length = b.length by omega, if_pos (by omega)]
    unfold eb
    rw [if_neg h]

theorem bits_loop (hb : Bytes b) (hl : b.length < 1099511627776) {n : Nat} (hn : n ≤ 24) : ∀ (nn f : Nat) (w : W), w.Ok → n ≤ w.wai + 8 * f → f < nn →
    Rc.bits.loop3 N nn (n : Int) rng val last front count bad b (fr b w.k) w.win (w.wai : Int) = some (fr b (W.fill b n f w).k, (W.fill b n f w).win, ((W.fill b n f w).wai : Int))
  | 0, f, w, _, _, h => by omega
  | nn + 1, f, w, h, hf, h0 => by
    unfold Rc.bits.loop3
    simp only [br_dec, chkI_same, chkB_same, chkL_same, endb_F hb hl, obind_of]
    by_cases hw : w.wai < n
    · rw [if_pos (by omega), chk_pos (by omega), Int.toNat_natCast]
      obtain ⟨x0, x1⟩ := eb_range hb w.k
      cases f with
      | zero => omega
      | succ f =>
        have hc := h.c
        rw [or_win h.a h.b (by omega) x0 x1, i64 (by omega) (by omega)]
        have ih := bits_loop hb hl hn nn f (w.step b) (h.step hb (by omega)) (by simp only [W.step]; omega) (by omega)
        simp only [W.fill, if_pos hw]
        simp only [W.step] at ih ⊢
        exact ih
    · rw [if_neg (by omega)]
      have : W.fill b n f w = w := by cases f with
        | zero => rfl
        | succ f => simp only [W.fill, if_neg hw]
      rw [this]

theorem mask_val {win : Int} {n : Nat} (h0 : 0 ≤ win) (h1 : win < 4294967296) (hn : n ≤ 24) :
    IntKind.i64.wrap (IntKind.u64.wrap ↑(BitVec.ofInt IntKind.u64.bits win &&& BitVec.ofInt IntKind.u64.bits (IntKind.u64.wrap (IntKind.u64.wrap (1 * 2 ^ min n IntKind.u64.bits) - 1))).toNat) = win % 2 ^ n := by
  have h6 := p2pos n
  have h7 : (2 : Int) ^ n ≤ 16777216 := p2le (a := n) (b := 24) (by omega)
  have h8 := Int.emod_nonneg win (show (2 : Int) ^ n ≠ 0 by omega)
  have h9 := Int.emod_lt_of_pos win h6
  rw [bits_u64, show min n 64 = n by omega, Int.one_mul, u64 (x := 2 ^ n) (by omega) (by omega), u64 (x := 2 ^ n - 1) (by omega) (by omega),
    and_mask (w := 64) (k := n) h0 (by show win < 18446744073709551616; omega) rfl (by omega), u64 h8 (by omega), i64 (by omega) (by omega)]

/-- rc's Bits. -/
theorem bits_F (hb : Bytes b) (hl : b.length < 1099511627776) {w : W} (h : w.Ok) (n : Int) (hc0 : 0 ≤ count) (hc1 : count < 1099511627776) (hN : 300 ≤ N) :
    Rc.bits.F N n rng val last front (fr b w.k) w.win (w.wai : Int) count bad b =
      some (if 0 ≤ n ∧ n ≤ 24 then (w.val b n.toNat, fr b (w.next b n.toNat).k, (w.next b n.toNat).win, ((w.next b n.toNat).wai : Int), count + n) else (0, fr b w.k, w.win, (w.wai : Int), count)) := by
  unfold Rc.bits.F
  simp only [br_dec, chkI_same, chkB_same, chkL_same]
  by_cases n0 : n < 0
  · rw [if_pos n0, if_neg (by omega)]
  rw [if_neg n0]
  by_cases n1 : n > 24
  · rw [if_pos n1, if_neg (by omega)]
  rw [if_neg n1, if_pos (show 0 ≤ n ∧ n ≤ 24 by omega)]
  obtain ⟨k, rfl⟩ : ∃ k : Nat, n = k := ⟨n.toNat, by omega⟩
  have hk : k ≤ 24 := by omega
  rw [bits_loop hb hl hk N 4 w h (by omega) (by omega), obind_of]
  simp only [Int.toNat_natCast]
  obtain ⟨h1, h2, h3⟩ := W.fill_ok hb hk 4 w h
  have h4 := W.fill_n (b := b) (n := k) 4 w (by omega)
  have h5 : (2 : Int) ^ (W.fill b k 4 w).wai ≤ 2147483648 := p2le (b := 31) h3
  rw [chk_pos (by omega), chk_pos (by omega), mask_val h1 (by omega) hk, i64 (x := count + k) (by omega) (by omega), i64 (by omega) (by omega), bits_u64, show min k 64 = k by omega, fdiv_ediv (by have := p2pos k; omega)]
  simp only [W.val, W.next, W.at]
  congr 5
  omega

end
end Go.Pl
