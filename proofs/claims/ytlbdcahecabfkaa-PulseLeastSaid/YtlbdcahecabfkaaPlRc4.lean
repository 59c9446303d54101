/-
  Plain words: how many bits a number has; the code's two ways to count them.
  Conditions: none.
-/
import Derived.Test.YtlbdcahecabfkaaPlRc3
set_option linter.unusedSimpArgs false
set_option linter.unusedVariables false
namespace Go.Pl
open Go.Eng Go.Proofs
def bl (x : Int) : Int := if x ≤ 0 then 0 else (x.toNat.log2 : Int) + 1
theorem bl_of {x : Int} {k : Nat} (h0 : 2 ^ k ≤ x) (h1 : x < 2 ^ (k + 1)) : bl x = k + 1 := by
  have hp := p2pos k
  obtain ⟨n, rfl⟩ := Int.eq_ofNat_of_zero_le (show 0 ≤ x by omega)
  have g0 : 2 ^ k ≤ n := by exact_mod_cast h0
  have g1 : n < 2 ^ (k + 1) := by exact_mod_cast h1
  have hn : n ≠ 0 := by have := Nat.two_pow_pos k; omega
  unfold bl
  rw [if_neg (by omega), Int.toNat_natCast]
  have e1 := (Nat.le_log2 hn).2 g0
  have e2 := (Nat.log2_lt hn).2 g1
  omega
theorem bl_spec {x : Int} (h : 1 ≤ x) : ∃ k : Nat, bl x = k + 1 ∧ 2 ^ k ≤ x ∧ x < 2 ^ (k + 1) := by
  obtain ⟨n, rfl⟩ := Int.eq_ofNat_of_zero_le (show 0 ≤ x by omega)
  have hn : n ≠ 0 := by omega
  refine ⟨n.log2, ?_, by exact_mod_cast Nat.log2_self_le hn, by exact_mod_cast Nat.lt_log2_self⟩
  unfold bl
  rw [if_neg (by omega), Int.toNat_natCast]
theorem bl_zero {x : Int} (h : x ≤ 0) : bl x = 0 := by unfold bl; rw [if_pos h]
theorem bl_nonneg (x : Int) : 0 ≤ bl x := by unfold bl; split <;> omega
theorem bl_mono {x y : Int} (h : x ≤ y) : bl x ≤ bl y := by
  rcases Int.lt_or_le x 1 with h1 | h1
  · rw [bl_zero (by omega)]; exact bl_nonneg y
  · obtain ⟨k, e1, a1, a2⟩ := bl_spec h1
    obtain ⟨j, e2, c1, c2⟩ := bl_spec (x := y) (by omega)
    rw [e1, e2]
    rcases Nat.lt_or_ge j k with hj | hj
    · have := p2le (a := j + 1) (b := k) hj
      omega
    · omega
theorem bl_le {x : Int} {n : Nat} (h : x < 2 ^ n) : bl x ≤ n := by
  rcases Int.lt_or_le x 1 with h1 | h1
  · rw [bl_zero (by omega)]; omega
  · obtain ⟨k, e1, a1, a2⟩ := bl_spec h1
    rcases Nat.lt_or_ge k n with hj | hj
    · omega
    · have := p2le (a := n) (b := k) hj; omega
theorem bl_shift {x : Int} (s : Nat) (h : 1 ≤ x / 2 ^ s) : bl x = s + bl (x / 2 ^ s) := by
  obtain ⟨k, e1, a1, a2⟩ := bl_spec h
  have hp := p2pos s
  have h1 := Int.ediv_mul_le x (show (2 : Int) ^ s ≠ 0 by omega)
  have h2 := Int.lt_ediv_add_one_mul_self x hp
  have h3 : (2 : Int) ^ k * 2 ^ s ≤ x / 2 ^ s * 2 ^ s := Int.mul_le_mul_of_nonneg_right a1 (by omega)
  have h4 : (x / 2 ^ s + 1) * 2 ^ s ≤ 2 ^ (k + 1) * 2 ^ s := Int.mul_le_mul_of_nonneg_right (by omega) (by omega)
  rw [← Int.pow_add] at h3 h4
  rw [e1, bl_of (k := k + s) (by omega) (by rw [show k + s + 1 = k + 1 + s by omega]; omega)]
  omega
def tab8 : List Int := [0, 1, 2, 2, 3, 3, 3, 3, 4, 4, 4, 4, 4, 4, 4, 4, 5, 5, 5, 5, 5, 5, 5, 5, 5, 5, 5, 5, 5, 5, 5, 5, 6, 6, 6, 6, 6, 6, 6, 6, 6, 6, 6, 6, 6, 6, 6, 6, 6, 6, 6, 6, 6, 6, 6, 6, 6, 6, 6, 6, 6, 6, 6, 6, 7, 7, 7, 7, 7, 7, 7, 7, 7, 7, 7, 7, 7, 7, 7, 7, 7, 7, 7, 7, 7, 7, 7, 7, 7, 7, 7, 7, 7, 7, 7, 7, 7, 7, 7, 7, 7, 7, 7, 7, 7, 7, 7, 7, 7, 7, 7, 7, 7, 7, 7, 7, 7, 7, 7, 7, 7, 7, 7, 7, 7, 7, 7, 7, 8, 8, 8, 8, 8, 8, 8, 8, 8, 8, 8, 8, 8, 8, 8, 8, 8, 8, 8, 8, 8, 8, 8, 8, 8, 8, 8, 8, 8, 8, 8, 8, 8, 8, 8, 8, 8, 8, 8, 8, 8, 8, 8, 8, 8, 8, 8, 8, 8, 8, 8, 8, 8, 8, 8, 8, 8, 8, 8, 8, 8, 8, 8, 8, 8, 8, 8, 8, 8, 8, 8, 8, 8, 8, 8, 8, 8, 8, 8, 8, 8, 8, 8, 8, 8, 8, 8, 8, 8, 8, 8, 8, 8, 8, 8, 8, 8, 8, 8, 8, 8, 8, 8, 8, 8, 8, 8, 8, 8, 8, 8, 8, 8, 8, 8, 8, 8, 8, 8, 8, 8, 8, 8, 8, 8, 8, 8, 8]
theorem tab8_all : ∀ y : Fin 256, tab8.getD y.val 0 = (if y.val = 0 then 0 else (y.val.log2 : Int) + 1) := by decide +kernel
theorem tab8_get {y : Int} (h0 : 0 ≤ y) (h1 : y < 256) : tab8.getD y.toNat 0 = bl y := by
  have := tab8_all ⟨y.toNat, by omega⟩
  simp only at this
  rw [this]
  unfold bl
  by_cases h : y ≤ 0
  · rw [if_pos (by omega), if_pos h]
  · rw [if_neg (by omega), if_neg h]
theorem p32 : (2 : Int) ^ min (Int.toNat (32 : Int)) IntKind.u64.bits = 4294967296 := rfl
theorem fd256 (a : Int) : a.fdiv 256 = a / 256 := fdiv_ediv (by omega)
theorem fd65536 (a : Int) : a.fdiv 65536 = a / 65536 := fdiv_ediv (by omega)
theorem fd32 (a : Int) : a.fdiv 4294967296 = a / 4294967296 := fdiv_ediv (by omega)
theorem p16 : (2 : Int) ^ min (Int.toNat (16 : Int)) IntKind.u64.bits = 65536 := rfl
set_option maxRecDepth 100000 in
theorem len64_F {N : Nat} {x : Int} (h0 : 0 ≤ x) (h1 : x < 18446744073709551616) : Rc.len64.F N x = some (bl x) := by
  have hL : Rc.len64.F N x = Rc.len64.F N x := rfl
  unfold Rc.len64.F at hL ⊢
  generalize hT : ([(0 : Int), (1 : Int), (2 : Int), (2 : Int), (3 : Int), (3 : Int), (3 : Int), (3 : Int), (4 : Int), (4 : Int), (4 : Int), (4 : Int), (4 : Int), (4 : Int), (4 : Int), (4 : Int), (5 : Int), (5 : Int), (5 : Int), (5 : Int), (5 : Int), (5 : Int), (5 : Int), (5 : Int), (5 : Int), (5 : Int), (5 : Int), (5 : Int), (5 : Int), (5 : Int), (5 : Int), (5 : Int), (6 : Int), (6 : Int), (6 : Int), (6 : Int), (6 : Int), (6 : Int), (6 : Int), (6 : Int), (6 : Int), (6 : Int), (6 : Int), (6 : Int), (6 : Int), (6 : Int), (6 : Int), (6 : Int), (6 : Int), (6 : Int), (6 : Int), (6 : Int), (6 : Int), (6 : Int), (6 : Int), (6 : Int), (6 : Int), (6 : Int), (6 : Int), (6 : Int), (6 : Int), (6 : Int), (6 : Int), (6 : Int), (7 : Int), (7 : Int), (7 : Int), (7 : Int), (7 : Int), (7 : Int), (7 : Int), (7 : Int), (7 : Int), (7 : Int), (7 : Int), (7 : Int), (7 : Int), (7 : Int), (7 : Int), (7 : Int), (7 : Int), (7 : Int), (7 : Int), (7 : Int), (7 : Int), (7 : Int), (7 : Int), (7 : Int), (7 : Int), (7 : Int), (7 : Int), (7 : Int), (7 : Int), (7 : Int), (7 : Int), (7 : Int), (7 : Int), (7 : Int), (7 : Int), (7 : Int), (7 : Int), (7 : Int), (7 : Int), (7 : Int), (7 : Int), (7 : Int), (7 : Int), (7 : Int), (7 : Int), (7 : Int), (7 : Int), (7 : Int), (7 : Int), (7 : Int), (7 : Int), (7 : Int), (7 : Int), (7 : Int), (7 : Int), (7 : Int), (7 : Int), (7 : Int), (7 : Int), (7 : Int), (7 : Int), (7 : Int), (7 : Int), (7 : Int), (8 : Int), (8 : Int), (8 : Int), (8 : Int), (8 : Int), (8 : Int), (8 : Int), (8 : Int), (8 : Int), (8 : Int), (8 : Int), (8 : Int), (8 : Int), (8 : Int), (8 : Int), (8 : Int), (8 : Int), (8 : Int), (8 : Int), (8 : Int), (8 : Int), (8 : Int), (8 : Int), (8 : Int), (8 : Int), (8 : Int), (8 : Int), (8 : Int), (8 : Int), (8 : Int), (8 : Int), (8 : Int), (8 : Int), (8 : Int), (8 : Int), (8 : Int), (8 : Int), (8 : Int), (8 : Int), (8 : Int), (8 : Int), (8 : Int), (8 : Int), (8 : Int), (8 : Int), (8 : Int), (8 : Int), (8 : Int), (8 : Int), (8 : Int), (8 : Int), (8 : Int), (8 : Int), (8 : Int), (8 : Int), (8 : Int), (8 : Int), (8 : Int), (8 : Int), (8 : Int), (8 : Int), (8 : Int), (8 : Int), (8 : Int), (8 : Int), (8 : Int), (8 : Int), (8 : Int), (8 : Int), (8 : Int), (8 : Int), (8 : Int), (8 : Int), (8 : Int), (8 : Int), (8 : Int), (8 : Int), (8 : Int), (8 : Int), (8 : Int), (8 : Int), (8 : Int), (8 : Int), (8 : Int), (8 : Int), (8 : Int), (8 : Int), (8 : Int), (8 : Int), (8 : Int), (8 : Int), (8 : Int), (8 : Int), (8 : Int), (8 : Int), (8 : Int), (8 : Int), (8 : Int), (8 : Int), (8 : Int), (8 : Int), (8 : Int), (8 : Int), (8 : Int), (8 : Int), (8 : Int), (8 : Int), (8 : Int), (8 : Int), (8 : Int), (8 : Int), (8 : Int), (8 : Int), (8 : Int), (8 : Int), (8 : Int), (8 : Int), (8 : Int), (8 : Int), (8 : Int), (8 : Int), (8 : Int), (8 : Int), (8 : Int), (8 : Int), (8 : Int), (8 : Int), (8 : Int)] : List Int) = T
  replace hT : T = tab8 := hT.symm
  subst hT
  simp only [p32, p16, p8, br_dec, ge_iff_le, fd256, fd65536, fd32]
  have sh : ∀ (s : Nat) (y : Int), x / 2 ^ s = y → (s = 0 ∨ 1 ≤ y) → bl x = s + bl y := by
    intro s y hy hs
    subst hy
    rcases hs with rfl | hs
    · simp
    · exact bl_shift s hs
  have fin : ∀ (s : Nat) (y : Int), x / 2 ^ s = y → (s = 0 ∨ 1 ≤ y) → 0 ≤ y → y < 256 → s ≤ 56 → ∀ z : Int, z = s → IntKind.i64.wrap (z + IntKind.i64.wrap (tab8.getD y.toNat 0)) = bl x := by
    intro s y hy hs hy0 hy1 hs2 z hz
    have b0 := bl_nonneg y
    have b1 := bl_le (n := 8) (x := y) (by show y < 256; exact hy1)
    rw [tab8_get hy0 hy1, i64 (x := bl y) (by omega) (by omega), i64 (by omega) (by omega), sh s y hy hs, hz]
  by_cases a1 : 4294967296 ≤ x
  · rw [if_pos a1]
    by_cases a2 : 65536 ≤ x / 4294967296
    · rw [if_pos a2]
      by_cases a3 : 256 ≤ x / 4294967296 / 65536
      · rw [if_pos a3]
        refine (chk_pos (by rw [u8 (by omega) (by omega)]; omega) _).trans ?_
        rw [u8 (by omega) (by omega)]
        exact congrArg some (fin 56 _ (by show x / 72057594037927936 = _; omega) (Or.inr (by omega)) (by omega) (by omega) (by omega) _ rfl)
      · rw [if_neg a3]
        refine (chk_pos (by rw [u8 (by omega) (by omega)]; omega) _).trans ?_
        rw [u8 (by omega) (by omega)]
        exact congrArg some (fin 48 _ (by show x / 281474976710656 = _; omega) (Or.inr (by omega)) (by omega) (by omega) (by omega) _ rfl)
    · rw [if_neg a2]
      by_cases a3 : 256 ≤ x / 4294967296
      · rw [if_pos a3]
        refine (chk_pos (by rw [u8 (by omega) (by omega)]; omega) _).trans ?_
        rw [u8 (by omega) (by omega)]
        exact congrArg some (fin 40 _ (by show x / 1099511627776 = _; omega) (Or.inr (by omega)) (by omega) (by omega) (by omega) _ rfl)
      · rw [if_neg a3]
        refine (chk_pos (by rw [u8 (by omega) (by omega)]; omega) _).trans ?_
        rw [u8 (by omega) (by omega)]
        exact congrArg some (fin 32 _ (by show x / 4294967296 = _; omega) (Or.inr (by omega)) (by omega) (by omega) (by omega) _ rfl)
  · rw [if_neg a1]
    by_cases a2 : 65536 ≤ x
    · rw [if_pos a2]
      by_cases a3 : 256 ≤ x / 65536
      · rw [if_pos a3]
        refine (chk_pos (by rw [u8 (by omega) (by omega)]; omega) _).trans ?_
        rw [u8 (by omega) (by omega)]
        exact congrArg some (fin 24 _ (by show x / 16777216 = _; omega) (Or.inr (by omega)) (by omega) (by omega) (by omega) _ rfl)
      · rw [if_neg a3]
        refine (chk_pos (by rw [u8 (by omega) (by omega)]; omega) _).trans ?_
        rw [u8 (by omega) (by omega)]
        exact congrArg some (fin 16 _ (by show x / 65536 = _; omega) (Or.inr (by omega)) (by omega) (by omega) (by omega) _ rfl)
    · rw [if_neg a2]
      by_cases a3 : 256 ≤ x
      · rw [if_pos a3]
        refine (chk_pos (by rw [u8 (by omega) (by omega)]; omega) _).trans ?_
        rw [u8 (by omega) (by omega)]
        exact congrArg some (fin 8 _ (by show x / 256 = _; omega) (Or.inr (by omega)) (by omega) (by omega) (by omega) _ rfl)
      · rw [if_neg a3]
        refine (chk_pos (by rw [u8 (by omega) (by omega)]; omega) _).trans ?_
        rw [u8 (by omega) (by omega)]
        exact congrArg some (fin 0 _ (by simp) (Or.inl rfl) (by omega) (by omega) (by omega) _ rfl)
theorem blen_F {N : Nat} {x : Int} (h0 : 0 ≤ x) (h1 : x < 18446744073709551616) : Rc.blen.F N x = some (bl x) := by
  unfold Rc.blen.F
  rw [len64_F h0 h1]
  rfl
theorem bl_half {x : Int} (h : 1 ≤ x) : bl x = bl (x / 2) + 1 := by
  by_cases h2 : 2 ≤ x
  · have := bl_shift (x := x) 1 (by show 1 ≤ x / 2; omega)
    rw [this]
    show ((1 : Nat) : Int) + bl (x / 2) = _
    omega
  · have : x = 1 := by omega
    subst this
    decide
theorem rlen_loop {N : Nat} : ∀ (nn : Nat) (f : Nat) (a n : Int), a < 2 ^ f → a ≤ 9223372036854775807 → 0 ≤ n → n + f ≤ 1000 → f < nn → Rc.rlen.loop2 N nn a n = some (n + bl a)
  | 0, f, a, n, _, _, _, _, h => by omega
  | nn + 1, f, a, n, h1, h2, h3, h4, h => by
    unfold Rc.rlen.loop2
    simp only [br_dec]
    by_cases ha : a > 0
    · rw [if_pos ha, tdiv_ediv (by omega), i64 (x := a / 2) (by omega) (by omega), i64 (x := n + 1) (by omega) (by omega)]
      cases f with
      | zero => simp at h1; omega
      | succ f =>
        rw [Int.pow_succ] at h1
        rw [rlen_loop nn f (a / 2) (n + 1) (by omega) (by omega) (by omega) (by omega) (by omega), bl_half (x := a) (by omega)]
        exact congrArg some (by omega : n + 1 + bl (a / 2) = n + (bl (a / 2) + 1))
    · rw [if_neg ha, bl_zero (by omega)]
      exact congrArg some (by omega : n = n + 0)
theorem rlen_F {N : Nat} {a : Int} (h : a ≤ 9223372036854775807) (hN : 300 ≤ N) : Rc.rlen.F N a = some (bl a) := by
  unfold Rc.rlen.F
  rw [rlen_loop N 63 a 0 (by show a < 9223372036854775808; omega) h (by omega) (by omega) (by omega), obind_of]
  exact congrArg some (by omega : 0 + bl a = bl a)
def Q.tell (q : Q) (count : Int) : Int := count - bl q.rng
theorem Q.bl_range {q : Q} (h : q.Ok) : 24 ≤ bl q.rng ∧ bl q.rng ≤ 32 := by
  refine ⟨?_, bl_le (n := 32) (by show q.rng < 4294967296; have := h.r1; omega)⟩
  have := bl_mono (x := 8388608) (y := q.rng) (by have := h.r0; omega)
  have e : bl 8388608 = 24 := by decide +kernel
  omega
section
variable {N : Nat} {val last front back window waiting count : Int} {bad : Bool} {b : List Int}
theorem tell_F {q : Q} (h : q.Ok) (hc0 : 0 ≤ count) (hc1 : count < 1099511627776) : Rc.tell.F N q.rng val last front back window waiting count bad b = some (q.tell count) := by
  have := Q.bl_range h
  unfold Rc.tell.F
  simp only [chkI_same, chkB_same, chkL_same]
  rw [len64_F (by have := h.r0; omega) (by have := h.r1; omega), obind_of, i64 (by omega) (by omega)]
  rfl
end
section
variable {N : Nat} {val last front back wait waiting count eq : Int} {bad : Bool} {b : List Int}
theorem rtell_F {q : Q} (h : q.Ok) (hc0 : 0 ≤ count) (hc1 : count < 1099511627776) (hN : 300 ≤ N) : Rc.rtell.F N q.rng val last front back wait waiting count eq bad b = some (q.tell count) := by
  have := Q.bl_range h
  unfold Rc.rtell.F
  simp only [chkI_same, chkB_same, chkL_same]
  rw [i64 (x := q.rng) (by have := h.r0; omega) (by have := h.r1; omega), rlen_F (by have := h.r1; omega) hN, obind_of, i64 (by omega) (by omega)]
  rfl
theorem rbad_F {q : Q} (h : q.Ok) (hc0 : 0 ≤ count) (hc1 : count < 1099511627776) (hl : b.length < 1099511627776) (hN : 300 ≤ N) :
    Rc.rbad.F N q.rng val last front back wait waiting count eq bad b = some (bad || decide (q.tell count > 8 * (b.length : Int))) := by
  unfold Rc.rbad.F
  simp only [chkI_same, chkB_same, chkL_same, br_if]
  rw [rtell_F h hc0 hc1 hN, obind_of, i64 (by omega) (by omega)]
  cases bad <;> rfl
end
def Q.new0 (b : List Int) : Q := ⟨128, 127 - nb b 0 / 2, nb b 0, 1⟩
def Q.new (b : List Int) : Q := (Q.new0 b).on b
def cnew (b : List Int) : Int := 9 + 8 * (((Q.new b).m - 1 : Nat) : Int)
theorem Q.new0_pre {b : List Int} (hb : Bytes b) : (Q.new0 b).Pre := by
  obtain ⟨h1, h2⟩ := nb_range hb 0
  unfold Q.new0
  exact ⟨by simp only; omega, by simp only; omega, by simp only; omega, by simp only; omega, h1, h2⟩
theorem Q.new_ok {b : List Int} (hb : Bytes b) : (Q.new b).Ok := Q.on_ok hb (Q.new0_pre hb)
theorem Q.new_m (b : List Int) : 1 ≤ (Q.new b).m ∧ (Q.new b).m ≤ 5 := Q.on_m b (Q.new0 b)
theorem clone8_F {N : Nat} {b : List Int} (hl : b.length < 1099511627776) : Rc.clone8.F2 N b = some b := by
  unfold Rc.clone8.F2
  rw [chk_pos (by omega)]
theorem new_F {N : Nat} {b : List Int} (hb : Bytes b) (hl : b.length < 1099511627776) (hN : 300 ≤ N) :
    Rc.new.F N b = some ((Q.new b).rng, (Q.new b).val, (Q.new b).last, fr b (Q.new b).m, 0, 0, 0, cnew b, false, b) := by
  unfold Rc.new.F
  obtain ⟨h1, h2⟩ := nb_range hb 0
  have hn := next_F (N := N) (rng := 128) (val := 0) (last := 0) (back := 0) (window := 0) (waiting := 0) (count := 9) (bad := false) hb hl 0
  rw [show fr b 0 = 0 by simp [fr]] at hn
  rw [clone8_F hl, obind_of, hn, obind_of]
  simp only [p1]
  rw [fdiv_ediv (by omega), u64 (by omega) (by omega)]
  have := norm_F (N := N) (back := 0) (window := 0) (waiting := 0) (count := 9) (bad := false) hb hl (Q.new0_pre hb) (by omega) (by omega) (by omega)
  simp only [Q.new0] at this
  rw [this]
  rfl
theorem rnew_F {N : Nat} {b : List Int} (hb : Bytes b) (hl : b.length < 1099511627776) (hN : 300 ≤ N) :
    Rc.rnew.F N b = some ((Q.new b).rng, (Q.new b).val, (Q.new b).last, fr b (Q.new b).m, 0, 0, 0, cnew b, 0, false, b) := by
  unfold Rc.rnew.F
  obtain ⟨h1, h2⟩ := nb_range hb 0
  have hn := rnext_F (N := N) (rng := 128) (val := 0) (last := 0) (back := 0) (wait := 0) (waiting := 0) (count := 9) (eq := 0) (bad := false) hb hl 0
  rw [show fr b 0 = 0 by simp [fr]] at hn
  rw [hn, obind_of]
  simp only
  rw [tdiv_ediv (by omega), i64 (x := nb b 0 / 2) (by omega) (by omega), i64 (x := 127 - _) (by omega) (by omega), u64 (by omega) (by omega)]
  have := ron_F (N := N) (back := 0) (wait := 0) (waiting := 0) (count := 9) (eq := 0) (bad := false) hb hl (Q.new0_pre hb) (by omega) (by omega) (by omega)
  simp only [Q.new0] at this
  rw [this]
  rfl
end Go.Pl
