/-
  Chapter 4 in plain words: what Done tells.
  Conditions: none.
-/
import Derived.Test.YtlbdcahecabfkaaPlRen2
set_option linter.unusedSimpArgs false
set_option linter.unusedVariables false
namespace Go.Pl
open Go.Eng Go.Proofs
theorem bic_fin : ∀ q : Fin 8, ∀ y : Fin 256, ((BitVec.ofInt 8 (y.val : Int) &&& ~~~BitVec.ofInt 8 (2 ^ q.val)).toNat : Int) = (y.val : Int) - ((y.val : Int) / 2 ^ q.val % 2) * 2 ^ q.val := by decide +kernel
theorem band_fin : ∀ q : Fin 8, ∀ y : Fin 256, ((BitVec.ofInt 8 (y.val : Int) &&& BitVec.ofInt 8 (2 ^ q.val)).toNat : Int) = ((y.val : Int) / 2 ^ q.val % 2) * 2 ^ q.val := by decide +kernel
theorem bor_fin : ∀ q : Fin 8, ∀ y : Fin 256, ∀ d : Fin 2, ((BitVec.ofInt 8 ((y.val : Int) - ((y.val : Int) / 2 ^ q.val % 2) * 2 ^ q.val) ||| BitVec.ofInt 8 ((d.val : Int) * 2 ^ q.val)).toNat : Int) = (y.val : Int) - ((y.val : Int) / 2 ^ q.val % 2) * 2 ^ q.val + (d.val : Int) * 2 ^ q.val := by decide +kernel
theorem put_bit {y z : Int} {q : Nat} (hq : q < 8) (y0 : 0 ≤ y) (y1 : y < 256) (z0 : 0 ≤ z) (z1 : z < 256) :
    IntKind.u8.wrap ↑(BitVec.ofInt IntKind.u8.bits (IntKind.u8.wrap ↑(BitVec.ofInt IntKind.u8.bits y &&& ~~~BitVec.ofInt IntKind.u8.bits (IntKind.u8.wrap (1 * 2 ^ min q IntKind.u8.bits))).toNat) ||| BitVec.ofInt IntKind.u8.bits (IntKind.u8.wrap ↑(BitVec.ofInt IntKind.u8.bits z &&& BitVec.ofInt IntKind.u8.bits (IntKind.u8.wrap (1 * 2 ^ min q IntKind.u8.bits))).toNat)).toNat =
      y + (z / 2 ^ q % 2 - y / 2 ^ q % 2) * 2 ^ q := by
  have hpq := p2pos q
  have hq7 : (2 : Int) ^ q ≤ 128 := p2le (b := 7) (by omega)
  obtain ⟨a, rfl⟩ := Int.eq_ofNat_of_zero_le y0
  obtain ⟨c, rfl⟩ := Int.eq_ofNat_of_zero_le z0
  have f1 := bic_fin ⟨q, hq⟩ ⟨a, by omega⟩
  have f2 := band_fin ⟨q, hq⟩ ⟨c, by omega⟩
  have hd : (c : Int) / 2 ^ q % 2 = 0 ∨ (c : Int) / 2 ^ q % 2 = 1 := by omega
  obtain ⟨d, hd2⟩ : ∃ d : Fin 2, (d.val : Int) = (c : Int) / 2 ^ q % 2 := by
    rcases hd with h | h
    · exact ⟨0, by rw [h]; rfl⟩
    · exact ⟨1, by rw [h]; rfl⟩
  have f3 := bor_fin ⟨q, hq⟩ ⟨a, by omega⟩ d
  simp only at f1 f2 f3
  rw [hd2] at f3
  have hbit : 0 ≤ (a : Int) / 2 ^ q % 2 ∧ (a : Int) / 2 ^ q % 2 ≤ 1 := by omega
  have hle : (a : Int) / 2 ^ q % 2 * 2 ^ q ≤ a := by
    have h1 := Int.mul_ediv_add_emod (a : Int) (2 ^ q)
    have h2 := Int.emod_nonneg (a : Int) (show (2 : Int) ^ q ≠ 0 by omega)
    have h3 : (a : Int) / 2 ^ q % 2 * 2 ^ q ≤ (a : Int) / 2 ^ q * 2 ^ q := by
      refine Int.mul_le_mul_of_nonneg_right ?_ (by omega)
      have : 0 ≤ (a : Int) / 2 ^ q := Int.ediv_nonneg y0 (by omega)
      omega
    rw [Int.mul_comm ((a : Int) / 2 ^ q)] at h3
    omega
  have hge : 0 ≤ (a : Int) / 2 ^ q % 2 * 2 ^ q := Int.mul_nonneg hbit.1 (by omega)
  have hz : 0 ≤ (c : Int) / 2 ^ q % 2 * 2 ^ q ∧ (c : Int) / 2 ^ q % 2 * 2 ^ q ≤ 128 := by rcases hd with h | h <;> rw [h] <;> omega
  have hsum : (a : Int) - (a : Int) / 2 ^ q % 2 * 2 ^ q + (c : Int) / 2 ^ q % 2 * 2 ^ q < 256 := by
    rw [← f3]
    have := (BitVec.ofInt 8 ((a : Int) - ((a : Int) / 2 ^ q % 2) * 2 ^ q) ||| BitVec.ofInt 8 ((c : Int) / 2 ^ q % 2 * 2 ^ q)).isLt
    omega
  rw [bits_u8, show min q 8 = q by omega, Int.one_mul, u8 (x := 2 ^ q) (by omega) (by omega), f1, f2, u8 (x := (a : Int) - _) (by omega) (by omega), u8 (x := (c : Int) / 2 ^ q % 2 * 2 ^ q) (by omega) (by omega), f3, u8 (by omega) hsum]
  rw [Int.sub_mul]
  omega
theorem tb_set {n j : Nat} (hj : j < n) (X : Int) {y : Int} (y0 : 0 ≤ y) (y1 : y < 256) : (tb n X).set (n - 1 - j) y = tb n (X + (y - X / 256 ^ j % 256) * 256 ^ j) := by
  have hp := p256pos j
  have h1 := tb_split (n - 1 - j + 1) j X
  have h2 := tb_split (n - 1 - j + 1) j (X + (y - X / 256 ^ j % 256) * 256 ^ j)
  rw [show n - 1 - j + 1 + j = n by omega] at h1 h2
  simp only [tb] at h1 h2
  rw [Int.add_mul_ediv_right _ _ (by omega), Int.mul_comm _ (256 ^ j), tb_add] at h2
  generalize X / 256 ^ j = q at *
  rw [show (q + (y - q % 256)) / 256 = q / 256 by omega, show (q + (y - q % 256)) % 256 = y by omega] at h2
  rw [Int.mul_comm _ (256 ^ j), h1, h2, List.append_assoc, List.append_assoc, List.singleton_append, List.singleton_append, set_mid (tb_len _ _)]
section
variable {N : Nat}
theorem done_loop {n r : Nat} {val rng rb count : Int} {told : List Int} {O raw : Int} (hr : r ≤ 8 * n) (hn : n ≤ 100000) (O0 : 0 ≤ O) (O1 : O < 256 ^ n) (w0 : 0 ≤ raw) : ∀ (nn i : Nat), i ≤ r → r - i < nn →
    Rc.edone.loop12 N nn n r val rng rb count told (le ((r + 7) / 8) raw) (i : Int) (tb n (O - O % 2 ^ i + raw % 2 ^ i)) = some (tb n (O - O % 2 ^ r + raw % 2 ^ r))
  | 0, i, _, h => by omega
  | nn + 1, i, hi, h => by
    unfold Rc.edone.loop12
    simp only [br_dec, chkI_same, chkL_same]
    by_cases hlt : i < r
    · have ih := done_loop (val := val) (rng := rng) (rb := rb) (count := count) (told := told) hr hn O0 O1 w0 nn (i + 1) (by omega) (by omega)
      have hpi := p2pos i
      have hpj := p256pos (i / 8)
      have hX : (O - O % 2 ^ i + raw % 2 ^ i) / 2 ^ i = O / 2 ^ i := by
        have h1 := Int.mul_ediv_add_emod O (2 ^ i)
        have m0 := Int.emod_nonneg raw (show (2 : Int) ^ i ≠ 0 by omega)
        have m1 := Int.emod_lt_of_pos raw hpi
        rw [show O - O % 2 ^ i + raw % 2 ^ i = raw % 2 ^ i + 2 ^ i * (O / 2 ^ i) by omega, Int.add_mul_ediv_left _ _ (by omega), Int.ediv_eq_zero_of_lt m0 m1, Int.zero_add]
      have hget := tb_get n (O - O % 2 ^ i + raw % 2 ^ i) (n - 1 - i / 8) (by omega)
      rw [show n - 1 - (n - 1 - i / 8) = i / 8 by omega] at hget
      have hraw := le_get ((r + 7) / 8) raw (i / 8) (by omega)
      have hy : (O - O % 2 ^ i + raw % 2 ^ i) / 256 ^ (i / 8) % 256 / 2 ^ (i % 8) % 2 = O / 2 ^ i % 2 := by
        rw [byte_bit _ (by omega), Int.ediv_ediv_of_nonneg (by omega), ← pow_split, hX]
      have hz : raw / 256 ^ (i / 8) % 256 / 2 ^ (i % 8) % 2 = raw / 2 ^ i % 2 := by
        rw [byte_bit _ (by omega), Int.ediv_ediv_of_nonneg (by omega), ← pow_split]
      have hnext : O - O % 2 ^ (i + 1) + raw % 2 ^ (i + 1) = (O - O % 2 ^ i + raw % 2 ^ i) + (raw / 2 ^ i % 2 - O / 2 ^ i % 2) * 2 ^ i := by
        rw [Int.pow_succ, emod_two_mul hpi O, emod_two_mul hpi raw, Int.sub_mul]
        omega
      rw [if_pos (by omega), tmod_emod (by omega), tdiv_ediv (by omega), show (i : Int) % 8 = ((i % 8 : Nat) : Int) by omega, show (i : Int) / 8 = ((i / 8 : Nat) : Int) by omega,
        i64 (x := (n : Int) - 1) (by omega) (by omega), i64 (x := ((i / 8 : Nat) : Int)) (by omega) (by omega), i64 (x := (n : Int) - 1 - _) (by omega) (by omega), show (n : Int) - 1 - ((i / 8 : Nat) : Int) = ((n - 1 - i / 8 : Nat) : Int) by omega,
        chk_pos (by omega), chk_pos (by rw [tb_len]; omega), chk_pos (by rw [le_len]; omega), chk_pos (by rw [tb_len]; omega)]
      simp only [Int.toNat_natCast]
      rw [hget, hraw, put_bit (by omega) (by omega) (by omega) (by omega) (by omega), hy, hz, tb_set (by omega) _ ?_ ?_, i64 (x := (i : Int) + 1) (by omega) (by omega)]
      · have e3 : (O - O % 2 ^ i + raw % 2 ^ i) / 256 ^ (i / 8) % 256 + (raw / 2 ^ i % 2 - O / 2 ^ i % 2) * 2 ^ (i % 8) - (O - O % 2 ^ i + raw % 2 ^ i) / 256 ^ (i / 8) % 256 = (raw / 2 ^ i % 2 - O / 2 ^ i % 2) * 2 ^ (i % 8) := by omega
        rw [e3, Int.mul_assoc, Int.mul_comm (2 ^ (i % 8)), ← pow_split, ← hnext]
        rw [show ((i + 1 : Nat) : Int) = (i : Int) + 1 by omega] at ih
        exact ih
      · rw [← hy, ← hz]
        rw [← put_bit (by omega) (by omega) (by omega) (by omega) (by omega), u8_mod]
        omega
      · rw [← hy, ← hz]
        rw [← put_bit (by omega) (by omega) (by omega) (by omega) (by omega), u8_mod]
        omega
    · have : i = r := by omega
      subst this
      rw [if_neg (by omega)]
theorem E.all_eq (e : E) (h0 : 0 ≤ e.low) : e.told ++ [e.val / 8388608, e.val / 32768 % 256, e.val / 128 % 256, e.val * 2 % 256] = tb (e.k + 4) (2 * e.low) := by
  simp only [tb, E.told, E.val]
  rw [show 2 * e.low / 256 / 256 / 256 / 256 = e.low / 2147483648 by omega, show 2 * e.low / 256 / 256 / 256 % 256 = e.low % 2147483648 / 8388608 by omega, show 2 * e.low / 256 / 256 % 256 = e.low % 2147483648 / 32768 % 256 by omega,
    show 2 * e.low / 256 % 256 = e.low % 2147483648 / 128 % 256 by omega, show 2 * e.low % 256 = e.low % 2147483648 * 2 % 256 by omega]
  simp
theorem copy_eq (K n : Nat) (A : Int) : List.take (List.replicate n (0 : Int)).length (tb K A) ++ List.drop (min (tb K A).length (List.replicate n (0 : Int)).length) (List.replicate n (0 : Int)) =
    tb n (if K ≤ n then A * 256 ^ (n - K) else A / 256 ^ (K - n)) := by
  rw [List.length_replicate, tb_len]
  by_cases h : K ≤ n
  · rw [if_pos h, List.take_of_length_le (by rw [tb_len]; exact h), show min K n = K by omega, List.drop_replicate]
    have := tb_split K (n - K) (A * 256 ^ (n - K))
    have hp := p256pos (n - K)
    rw [show K + (n - K) = n by omega, Int.mul_ediv_cancel _ (by omega), tb_zeros (n - K) _ (Int.mul_emod_left _ _)] at this
    rw [this]
    rfl
  · rw [if_neg h, tb_take (by omega), show min K n = n by omega]
    simp
theorem done_tail {e : E} (h : e.Ok) {n : Nat} (ht : e.tell ≤ 8 * (n : Int)) (hn : n ≤ 1275) (hN : 20000 ≤ N) {val rng count : Int} {told : List Int} :
    (obind (Rc.clone8.F2 N (tb n (e.top n))) fun r4 => obind (Rc.edone.loop12 N N n e.r val rng e.r count told e.bits 0 (tb n (e.top n))) fun r5 => obind (Rc.compare8.F N r5 r4) fun r6 =>
      if r6 < 0 then obind (Rc.increase.F N e.r r5) fun r7 => some ((0 : Int), r7) else some ((0 : Int), r5)) = some (0, tb n (e.out n)) := by
  obtain ⟨f1, f2, f3, f4, f5⟩ := E.out_fit h ht
  obtain ⟨o1, o2, o3, o4⟩ := E.out_facts h n
  have hpr := p2pos e.r
  have hl := done_loop (N := N) (n := n) (r := e.r) (val := val) (rng := rng) (rb := e.r) (count := count) (told := told) (O := e.top n) (raw := e.raw) f1 (by omega) f2 (by omega) h.w0 N 0 (by omega) (by omega)
  simp only [Int.pow_zero, Int.emod_one, Int.sub_zero, Int.add_zero] at hl
  rw [show ((0 : Nat) : Int) = 0 from rfl, Int.emod_eq_of_lt h.w0 h.w1] at hl
  have hmid : e.top n - e.top n % 2 ^ e.r + e.raw = e.mid n := rfl
  have hm0 := o4 f2
  have hm1 : e.mid n < 256 ^ n := by unfold E.out at f4; split at f4 <;> omega
  obtain ⟨r, hr1, hr2⟩ := compare_F (N := N) hm0 hm1 f2 (show e.top n < 256 ^ n by omega) (by omega) (by omega)
  rw [clone8_F (by rw [tb_len]; omega), obind_of]
  simp only [E.bits] at hl ⊢
  rw [hl, obind_of, hmid, hr1, obind_of]
  by_cases hc : e.mid n < e.top n
  · have eo : e.out n = e.mid n + 2 ^ e.r := by unfold E.out; rw [if_pos hc]
    have hr8 : e.r < 8 * n := by
      have := E.bl_range h
      unfold E.tell E.count at ht
      omega
    rw [if_pos (hr2.2 hc), increase_F hm0 (by rw [← eo]; exact f4) hr8 (by omega) (by omega), obind_of, eo]
  · have eo : e.out n = e.mid n := by unfold E.out; rw [if_neg hc]
    rw [if_neg (fun h => hc (hr2.1 h)), eo]
theorem edone_F {e : E} (h : e.Ok) (hl : e.Lim N) (hN : 20000 ≤ N) (n : Int) :
    Rc.edone.F N n e.val e.rng e.r e.count e.told e.bits =
      some (if n < 0 ∨ n > 1275 then (1, []) else if e.tell > 8 * n then (2, []) else (0, tb n.toNat (e.out n.toNat))) := by
  unfold Rc.edone.F
  simp only [br_dec, chkI_same, chkL_same]
  by_cases c1 : n < 0
  · rw [if_pos c1, if_pos (Or.inl c1)]
  by_cases c2 : n > 1275
  · rw [if_neg c1, if_pos c2, if_pos (Or.inr c2)]
  rw [if_neg c1, if_neg c2, if_neg (by omega), etell_F h hl, obind_of, i64 (x := 8 * n) (by omega) (by omega)]
  by_cases c3 : e.tell > 8 * n
  · rw [if_pos c3, if_pos c3]
  rw [if_neg c3, if_neg c3]
  obtain ⟨m, rfl⟩ := Int.eq_ofNat_of_zero_le (show 0 ≤ n by omega)
  obtain ⟨l1, l2, l3⟩ := id hl
  obtain ⟨v0, v1⟩ := e.val_range
  have ht : e.tell ≤ 8 * (m : Int) := by omega
  have htail := done_tail (N := N) h ht (by omega) hN (val := e.val) (rng := e.rng) (count := e.count) (told := e.told)
  have p15 : (2 : Int) ^ min (Int.toNat (15 : Int)) IntKind.u64.bits = 32768 := rfl
  have p7 : (2 : Int) ^ min (Int.toNat (7 : Int)) IntKind.u64.bits = 128 := rfl
  rw [clone8_F (by simp only [E.told, tb_len]; omega), obind_of]
  simp only [p23, p15, p7, p1, Int.toNat_natCast]
  rw [fdiv_ediv (a := e.val) (b := 8388608) (by omega), fdiv_ediv (a := e.val) (b := 32768) (by omega), fdiv_ediv (a := e.val) (b := 128) (by omega), u8 (x := e.val / 8388608) (by omega) (by omega), u8_mod (e.val / 32768), u8_mod (e.val / 128), u64 (x := e.val * 2) (by omega) (by omega), u8_mod (e.val * 2),
    chk_pos (by simp only [E.told, tb_len, List.length_cons, List.length_nil]; omega), chk_pos (by omega), e.all_eq h.l0, copy_eq, tb_len]
  by_cases c4 : e.k + 4 ≤ m
  · have et : e.top m = 2 * e.low * 256 ^ (m - (e.k + 4)) := by unfold E.top; rw [if_pos c4]
    rw [if_neg (by omega), if_pos c4, ← et]
    exact htail
  · rw [if_pos (by omega), if_neg c4, chk_pos (by omega), tb_drop (by omega), List.take_of_length_le (by rw [tb_len]; omega)]
    have hp := p256pos (e.k + 4 - m)
    have hcont := contains_F (N := N) (l := tb (e.k + 4 - m) (2 * e.low)) (by rw [tb_len]; omega) (by rw [tb_len]; omega)
    have hA0 : 0 ≤ 2 * e.low / 256 ^ (e.k + 4 - m) := Int.ediv_nonneg (by have := h.l0; omega) (by omega)
    by_cases c5 : 2 * e.low % 256 ^ (e.k + 4 - m) = 0
    · have et : e.top m = 2 * e.low / 256 ^ (e.k + 4 - m) := by unfold E.top; rw [if_neg c4, if_pos c5, Int.add_zero]
      rw [hcont.1 (fun j _ => by rw [tb_zeros _ _ c5]; simp [zeros, List.getD_eq_getElem?_getD, List.getElem?_replicate]; split <;> rfl), obind_of, br_false, ← et]
      exact htail
    · have et : e.top m = 2 * e.low / 256 ^ (e.k + 4 - m) + 1 := by unfold E.top; rw [if_neg c4, if_neg c5]
      obtain ⟨f1, f2, f3, f4, f5⟩ := E.out_fit h ht
      obtain ⟨o1, o2, o3, o4⟩ := E.out_facts h m
      have hinc := increase_F (N := N) (n := m) (p := 0) (Y := 2 * e.low / 256 ^ (e.k + 4 - m)) hA0 (by rw [Int.pow_zero]; omega) (by have := E.tell_pos h; omega) (by omega) (by omega)
      rw [Int.pow_zero, ← et] at hinc
      rw [hcont.2 (fun ha => ?_), obind_of, br_true]
      · rw [show ((0 : Nat) : Int) = 0 from rfl] at hinc
        rw [hinc, obind_of]
        exact htail
      · obtain ⟨x, hx, hx0⟩ := tb_some _ _ c5
        obtain ⟨j, hj, rfl⟩ := List.mem_iff_getElem.1 hx
        have := ha j hj
        rw [List.getD_eq_getElem?_getD, List.getElem?_eq_getElem hj] at this
        exact hx0 this
end
end Go.Pl
