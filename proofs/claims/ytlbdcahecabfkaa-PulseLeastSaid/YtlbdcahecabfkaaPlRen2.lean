/-
  Chapter 4 in plain words: numbers below a bound, Tell, the end.
  Conditions: none.
-/
import Derived.Test.YtlbdcahecabfkaaPlRen
set_option linter.unusedSimpArgs false
set_option linter.unusedVariables false
namespace Go.Pl
open Go.Eng Go.Proofs
theorem E.bt_lim {N : Nat} {e : E} {v : Int} {n : Nat} : (e.bt v n).k = e.k ∧ (e.bt v n).r = e.r + n := ⟨rfl, rfl⟩
def E.un (e : E) (v ft : Int) : E := if ft = 1 then e else if ft ≤ 256 then e.tk v (v + 1) ft else (e.tk (v / 2 ^ ub ft) (v / 2 ^ ub ft + 1) (uf ft)).bt (v % 2 ^ ub ft) (ub ft)
theorem un_place {v ft : Int} (v0 : 0 ≤ v) (v1 : v < ft) (h1 : ft ≤ 256) : Place v (v + 1) ft := ⟨by omega, by omega, v0, by omega, by omega⟩
theorem ug_place {v ft : Int} (v0 : 0 ≤ v) (v1 : v < ft) (h0 : 256 < ft) (h1 : ft ≤ 4294967295) : Place (v / 2 ^ ub ft) (v / 2 ^ ub ft + 1) (uf ft) ∧ 0 ≤ v / 2 ^ ub ft ∧ v / 2 ^ ub ft < 256 := by
  obtain ⟨b0, b1, b2, u0, u1⟩ := ub_range h0 h1
  have hp := p2pos (ub ft)
  have h2 : 0 ≤ v / 2 ^ ub ft := Int.ediv_nonneg v0 (by omega)
  have h3 : v / 2 ^ ub ft ≤ (ft - 1) / 2 ^ ub ft := Int.ediv_le_ediv hp (by omega)
  have h4 : uf ft = (ft - 1) / 2 ^ ub ft + 1 := rfl
  exact ⟨⟨u0, by omega, h2, by omega, by omega⟩, h2, by omega⟩
theorem E.un_ok {e : E} (h : e.Ok) {v ft : Int} (v0 : 0 ≤ v) (v1 : v < ft) (h1 : ft ≤ 4294967295) : (e.un v ft).Ok := by
  unfold E.un
  split
  · exact h
  · split
    · exact E.tk_ok h (un_place v0 v1 (by omega))
    · exact E.bt_ok (E.tk_ok h (ug_place v0 v1 (by omega) h1).1) (Int.emod_nonneg _ (by have := p2pos (ub ft); omega)) (Int.emod_lt_of_pos _ (p2pos _))
section
variable {N : Nat}
theorem E.Lim.tk {e : E} (hl : e.Lim (N + 4)) {fl fh ft : Int} (hk : e.k < 1099511626000) : (e.tk fl fh ft).Lim (N + 8) := by
  have := E.tk_same e fl fh ft
  obtain ⟨l1, l2, l3⟩ := hl
  exact ⟨by omega, by omega, by omega⟩
theorem and_low {v : Int} {k : Nat} (hk : k ≤ 24) : IntKind.i64.wrap ↑(BitVec.ofInt IntKind.i64.bits v &&& BitVec.ofInt IntKind.i64.bits (IntKind.i64.wrap (IntKind.i64.wrap (1 * 2 ^ min k IntKind.i64.bits) - 1))).toNat = v % 2 ^ k := by
  have h6 := p2pos k
  have h7 : (2 : Int) ^ k ≤ 16777216 := p2le (a := k) (b := 24) (by omega)
  have h8 := Int.emod_nonneg v (show (2 : Int) ^ k ≠ 0 by omega)
  have h9 := Int.emod_lt_of_pos v h6
  rw [bits_i64, show min k 64 = k by omega, Int.one_mul, i64 (x := 2 ^ k) (by omega) (by omega), i64 (x := 2 ^ k - 1) (by omega) (by omega),
    and_mask_any (w := 64) (k := k) (m := 2 ^ k - 1) v rfl (by omega), i64 (by omega) (by omega)]
theorem euint_F {e : E} (h : e.Ok) (hl : e.Lim N) (hk : e.k < 1099511626000) (v ft : Int) :
    Rc.euint.F N v ft e.val e.rng e.r e.count e.told e.bits =
      some (if 1 ≤ ft ∧ ft ≤ 4294967295 ∧ 0 ≤ v ∧ v < ft then (0, (e.un v ft).val, (e.un v ft).rng, ((e.un v ft).r : Int), (e.un v ft).count, (e.un v ft).told, (e.un v ft).bits) else (1, e.val, e.rng, (e.r : Int), e.count, e.told, e.bits)) := by
  unfold Rc.euint.F
  simp only [br_dec, br_beq]
  by_cases c1 : ft < 1
  · rw [if_pos c1, if_neg (by omega)]
  by_cases c2 : ft > 4294967295
  · rw [if_neg c1, if_pos c2, if_neg (by omega)]
  by_cases c3 : v < 0
  · rw [if_neg c1, if_neg c2, if_pos c3, if_neg (by omega)]
  by_cases c4 : v ≥ ft
  · rw [if_neg c1, if_neg c2, if_neg c3, if_pos c4, if_neg (by omega)]
  rw [if_neg c1, if_neg c2, if_neg c3, if_neg c4, if_pos (show 1 ≤ ft ∧ ft ≤ 4294967295 ∧ 0 ≤ v ∧ v < ft by omega)]
  by_cases c5 : ft = 1
  · rw [if_pos c5]
    have : e.un v ft = e := by unfold E.un; rw [if_pos c5]
    rw [this]
  by_cases c6 : ft ≤ 256
  · have eu : e.un v ft = e.tk v (v + 1) ft := by unfold E.un; rw [if_neg c5, if_pos c6]
    have hs := E.tk_same e v (v + 1) ft
    rw [if_neg c5, if_pos c6, u64 (x := v) (by omega) (by omega), i64 (x := v + 1) (by omega) (by omega), u64 (x := v + 1) (by omega) (by omega), u64 (x := ft) (by omega) (by omega), etake_F h hl (un_place (by omega) (by omega) c6), obind_of, eu]
    simp only [E.bits, hs.1, hs.2.1]
  · have eu : e.un v ft = (e.tk (v / 2 ^ ub ft) (v / 2 ^ ub ft + 1) (uf ft)).bt (v % 2 ^ ub ft) (ub ft) := by unfold E.un; rw [if_neg c5, if_neg c6]
    obtain ⟨b0, b1, b2, u0, u1⟩ := ub_range (ft := ft) (by omega) (by omega)
    obtain ⟨pl, q0, q1⟩ := ug_place (v := v) (ft := ft) (by omega) (by omega) (by omega) (by omega)
    have hok := E.tk_ok h pl
    have hs := E.tk_same e (v / 2 ^ ub ft) (v / 2 ^ ub ft + 1) (uf ft)
    obtain ⟨l1, l2, l3⟩ := id hl
    have hbits : (e.tk (v / 2 ^ ub ft) (v / 2 ^ ub ft + 1) (uf ft)).bits = e.bits := by simp only [E.bits, hs.1, hs.2.1]
    have hp := p2pos (ub ft)
    have m0 := Int.emod_nonneg v (show (2 : Int) ^ ub ft ≠ 0 by omega)
    have m1 := Int.emod_lt_of_pos v hp
    have euf : (ft - 1) / 2 ^ ub ft + 1 = uf ft := rfl
    rw [if_neg c5, if_neg c6, i64 (x := ft - 1) (by omega) (by omega), u64 (x := ft - 1) (by omega) (by omega), blen_F (by omega) (by omega), obind_of, b2, i64 (x := (ub ft : Int) + 8 - 8) (by omega) (by omega),
      show (ub ft : Int) + 8 - 8 = ub ft by omega, chk_pos (by omega), chk_pos (by omega), Int.toNat_natCast, and_low (by omega), bits_i64, show min (ub ft) 64 = ub ft by omega, fdiv_ediv (a := v) (by omega), fdiv_ediv (a := ft - 1) (by omega), euf,
      u64 (x := v / 2 ^ ub ft) (by omega) (by omega), u64 (x := v / 2 ^ ub ft + 1) (by omega) (by omega), i64 (x := uf ft) (by omega) (by omega), u64 (x := uf ft) (by omega) (by omega), etake_F h hl pl, obind_of, chk_pos (by omega)]
    simp only
    have hb := ebits_F (N := N) hok (by omega) (by omega) (by omega) (v % 2 ^ ub ft) (ub ft) (val := (e.tk (v / 2 ^ ub ft) (v / 2 ^ ub ft + 1) (uf ft)).val) (rng := (e.tk (v / 2 ^ ub ft) (v / 2 ^ ub ft + 1) (uf ft)).rng) (told := (e.tk (v / 2 ^ ub ft) (v / 2 ^ ub ft + 1) (uf ft)).told)
    rw [hs.1, hbits, Int.toNat_natCast, if_pos (by omega)] at hb
    rw [hb, obind_of, eu]
    rfl
theorem E.bl_range {e : E} (h : e.Ok) : 24 ≤ bl e.rng ∧ bl e.rng ≤ 32 := by
  refine ⟨?_, bl_le (n := 32) (by show e.rng < 4294967296; have := h.r1; omega)⟩
  have := bl_mono (x := 8388608) (y := e.rng) (by have := h.g; omega)
  have e : bl 8388608 = 24 := by decide +kernel
  omega
theorem etell_F {e : E} (h : e.Ok) (hl : e.Lim N) {raw told : List Int} {val rb : Int} : Rc.etell.F N val e.rng rb e.count told raw = some e.tell := by
  have := E.bl_range h
  obtain ⟨l1, l2, l3⟩ := hl
  have hc : 0 ≤ e.count ∧ e.count < 1152921504606846900 := by unfold E.count; omega
  unfold Rc.etell.F
  simp only [chkI_same, chkL_same]
  rw [len64_F (by have := h.g; omega) (by have := h.r1; omega), obind_of, i64 (by omega) (by omega)]
  rfl
theorem E.tell_pos {e : E} (h : e.Ok) : 1 ≤ e.tell := by
  have := E.bl_range h
  unfold E.tell E.count
  omega
theorem tb_add (m : Nat) : ∀ (A B : Int), tb m (A + 256 ^ m * B) = tb m A := by
  induction m with
  | zero => intro A B; rfl
  | succ m ih =>
    intro A B
    have hp := p256pos m
    have e1 : A + 256 ^ (m + 1) * B = A + 256 * (256 ^ m * B) := by rw [Int.pow_succ, Int.mul_comm (256 ^ m), Int.mul_assoc]
    simp only [tb]
    rw [e1, show (A + 256 * (256 ^ m * B)) / 256 = A / 256 + 256 ^ m * B by omega, ih, show (A + 256 * (256 ^ m * B)) % 256 = A % 256 by omega]
theorem incr_loop : ∀ (nn j : Nat) (m c : Int) (suf : List Int), 0 ≤ m → 0 ≤ c → c ≤ 256 → m + c < 256 ^ j → j < nn → j < 1099511627776 →
    Rc.increase.loop2 N nn c ((j : Int) - 1) (tb j m ++ suf) = some (tb j (m + c) ++ suf)
  | 0, j, m, c, suf, h0, c0, c1, h1, h2, _ => by omega
  | nn + 1, 0, m, c, suf, h0, c0, c1, h1, h2, _ => by
    unfold Rc.increase.loop2
    simp only [br_dec]
    rw [if_neg (by omega)]
    rfl
  | nn + 1, j + 1, m, c, suf, h0, c0, c1, h1, h2, h3 => by
    have e1 : tb (j + 1) m ++ suf = tb j (m / 256) ++ (m % 256) :: suf := by simp [tb]
    have e2 : tb (j + 1) (m + c) ++ suf = tb j ((m + c) / 256) ++ ((m + c) % 256) :: suf := by simp [tb]
    unfold Rc.increase.loop2
    simp only [br_dec]
    rw [show (((j + 1 : Nat) : Int)) - 1 = (j : Int) by omega, if_pos (by omega)]
    by_cases hc : c > 0
    · rw [Int.pow_succ] at h1
      have p8i : (2 : Int) ^ min (Int.toNat (8 : Int)) IntKind.i64.bits = 256 := rfl
      rw [if_pos hc, e1, Int.toNat_natCast, get_mid (tb_len _ _), i64 (x := m % 256) (by omega) (by omega), i64 (x := c + m % 256) (by omega) (by omega), set_mid (tb_len _ _), u8_mod, p8i, fdiv_ediv (by omega), chk_pos (by simp [tb_len]; omega), chk_pos (by simp [tb_len]; omega), i64 (by omega) (by omega),
        incr_loop nn j (m / 256) ((c + m % 256) / 256) _ (by omega) (by omega) (by omega) (by omega) (by omega) (by omega), e2, show m / 256 + (c + m % 256) / 256 = (m + c) / 256 by omega, show (c + m % 256) % 256 = (m + c) % 256 by omega]
    · have : c = 0 := by omega
      subst this
      rw [if_neg hc, Int.add_zero]
theorem increase_F {n p : Nat} {Y : Int} (h0 : 0 ≤ Y) (h1 : Y + 2 ^ p < 256 ^ n) (hp : p < 8 * n) (hn : n < 1099511627776) (hN : n < N) :
    Rc.increase.F N p (tb n Y) = some (tb n (Y + 2 ^ p)) := by
  unfold Rc.increase.F
  have hpq := p256pos (p / 8)
  have hq7 : (2 : Int) ^ (p % 8) ≤ 128 := p2le (b := 7) (by omega)
  have hq0 := p2pos (p % 8)
  have hsp := tb_split (n - p / 8) (p / 8) Y
  have hsp2 := tb_split (n - p / 8) (p / 8) (Y + 2 ^ p)
  rw [show n - p / 8 + p / 8 = n by omega] at hsp hsp2
  rw [pow_split p] at hsp2 h1 ⊢
  rw [Int.add_mul_ediv_left _ _ (by omega), tb_add] at hsp2
  have hlt : Y / 256 ^ (p / 8) + 2 ^ (p % 8) < 256 ^ (n - p / 8) := by
    have e : (Y + 256 ^ (p / 8) * 2 ^ (p % 8)) / 256 ^ (p / 8) < 256 ^ (n - p / 8) := by
      rw [Int.ediv_lt_iff_lt_mul hpq, ← Int.pow_add, show n - p / 8 + p / 8 = n by omega]
      exact h1
    rwa [Int.add_mul_ediv_left _ _ (by omega)] at e
  rw [tmod_emod (by omega), tdiv_ediv (by omega), tb_len, show (p : Int) % 8 = ((p % 8 : Nat) : Int) by omega, show (p : Int) / 8 = ((p / 8 : Nat) : Int) by omega, chk_pos (by omega), Int.toNat_natCast, bits_i64, show min (p % 8) 64 = p % 8 by omega,
    Int.one_mul, i64 (x := 2 ^ (p % 8)) (by omega) (by omega), i64 (x := (n : Int) - 1) (by omega) (by omega), i64 (x := ((p / 8 : Nat) : Int)) (by omega) (by omega), i64 (by omega) (by omega),
    show (n : Int) - 1 - ((p / 8 : Nat) : Int) = ((n - p / 8 : Nat) : Int) - 1 by omega]
  rw [hsp, incr_loop N (n - p / 8) _ _ _ (Int.ediv_nonneg h0 (by omega)) (by omega) (by omega) hlt (by omega) (by omega), obind_of, hsp2]
theorem indexf_loop {eb_ : List Int} {l : List Int} (hl : l.length < 1099511627776) : ∀ (nn k : Nat) (s : Int), k ≤ l.length → l.length - k < nn →
    ((∀ j, k ≤ j → j < l.length → l.getD j 0 = 0) → Rc.indexf8.loop2 N nn eb_ (l.length : Int) l s (k : Int) = some (.inl s)) ∧
    (¬ (∀ j, k ≤ j → j < l.length → l.getD j 0 = 0) → ∃ i : Nat, Rc.indexf8.loop2 N nn eb_ (l.length : Int) l s (k : Int) = some (.inr (i : Int)))
  | 0, k, s, _, h => by omega
  | nn + 1, k, s, hk, h => by
    unfold Rc.indexf8.loop2
    simp only [br_dec, br_bne, chkI_same, chkL_same]
    by_cases hlt : k < l.length
    · have ih := indexf_loop (eb_ := eb_) hl nn (k + 1) s (by omega) (by omega)
      rw [if_pos (by omega), chk_pos (by omega), Int.toNat_natCast, i64 (by omega) (by omega)]
      by_cases h0 : l.getD k 0 = 0
      · rw [if_pos h0]
        rw [show ((k + 1 : Nat) : Int) = (k : Int) + 1 by omega] at ih
        refine ⟨fun ha => ih.1 fun j hj => ha j (by omega), fun hn => ih.2 fun ha => hn fun j hj hj2 => ?_⟩
        rcases Nat.eq_or_lt_of_le hj with rfl | hj3
        · exact h0
        · exact ha j hj3 hj2
      · rw [if_neg h0]
        exact ⟨fun ha => absurd (ha k (Nat.le_refl _) hlt) h0, fun _ => ⟨k, rfl⟩⟩
    · rw [if_neg (by omega)]
      exact ⟨fun _ => rfl, fun hn => absurd (fun j h1 h2 => absurd h2 (by omega)) hn⟩
theorem contains_F {l : List Int} (hl : l.length < 1099511627776) (hN : l.length < N) :
    ((∀ j, j < l.length → l.getD j 0 = 0) → Rc.contains8.F N l = some false) ∧ (¬ (∀ j, j < l.length → l.getD j 0 = 0) → Rc.contains8.F N l = some true) := by
  unfold Rc.contains8.F Rc.indexf8.F
  have h := indexf_loop (N := N) (eb_ := l) hl N 0 0 (by omega) (by omega)
  rw [show ((0 : Nat) : Int) = 0 from rfl] at h
  refine ⟨fun ha => ?_, fun hn => ?_⟩
  · rw [h.1 fun j _ => ha j, osum_inl, obind_of]
    rfl
  · obtain ⟨i, hi⟩ := h.2 fun ha => hn fun j => ha j (by omega)
    rw [hi, osum_inr, obind_of]
    exact congrArg some (decide_eq_true (Int.natCast_nonneg i))
theorem cmp_F (x y : Int) : Rc.cmp8.F N x y = some (if x < y then -1 else if x > y then 1 else 0) := by
  unfold Rc.cmp8.F Rc.isnan8.F
  simp only [obind_of, bne_self_eq_false, br_false, br_dec]
  split
  · rfl
  · split <;> rfl
theorem compare_loop {ex ey : List Int} {b c : List Int} (hb : Bytes b) (hc : Bytes c) (hlen : b.length = c.length) (hl : b.length < 1099511627776) : ∀ (nn k : Nat) (s : Int), k ≤ b.length → b.length - k < nn → cp b k = cp c k →
    (∃ r, Rc.compare8.loop2 N nn ex ey (b.length : Int) c b s (k : Int) = some (.inr r) ∧ r ≠ 0 ∧ (r < 0 ↔ cp b b.length < cp c b.length)) ∨
    (Rc.compare8.loop2 N nn ex ey (b.length : Int) c b s (k : Int) = some (.inl s) ∧ cp b b.length = cp c b.length)
  | 0, k, s, _, h, _ => by omega
  | nn + 1, k, s, hk, h, he => by
    unfold Rc.compare8.loop2
    simp only [br_dec, br_bne, chkI_same, chkL_same]
    by_cases hlt : k < b.length
    · rw [if_pos (by omega), chk_pos (by omega), if_neg (by omega), chk_pos (by omega), Int.toNat_natCast, cmp_F, obind_of, i64 (by omega) (by omega)]
      have hbk := nb_range hb k
      have hck := nb_range hc k
      have e1 : cp b (k + 1) = cp b k * 256 + nb b k := rfl
      have e2 : cp c (k + 1) = cp c k * 256 + nb c k := rfl
      have n1 : b.getD k 0 = nb b k := rfl
      have n2 : c.getD k 0 = nb c k := rfl
      have f1 := cp_less hb (k + 1) (b.length - (k + 1))
      have f2 := cp_less hc (k + 1) (b.length - (k + 1))
      rw [show k + 1 + (b.length - (k + 1)) = b.length by omega] at f1 f2
      have hp := p256pos (b.length - (k + 1))
      rw [n1, n2]
      by_cases hx : nb b k < nb c k
      · left
        rw [if_pos hx, if_neg (by omega), omap_of]
        refine ⟨(-1 : Int), rfl, (by decide : (-1 : Int) ≠ 0), fun _ => ?_, fun _ => (by decide : (-1 : Int) < 0)⟩
        rcases Int.lt_or_le (cp b b.length) (cp c b.length) with h1 | h1
        · exact h1
        · have := Int.ediv_le_ediv hp h1; omega
      · by_cases hy : nb b k > nb c k
        · left
          rw [if_neg hx, if_pos hy, if_neg (by omega), omap_of]
          refine ⟨(1 : Int), rfl, (by decide : (1 : Int) ≠ 0), fun h => absurd h (by decide : ¬ (1 : Int) < 0), fun h1 => ?_⟩
          exfalso
          have := Int.ediv_le_ediv hp (Int.le_of_lt h1)
          omega
        · rw [if_neg hx, if_neg hy, if_pos rfl]
          have ih := compare_loop (ex := ex) (ey := ey) hb hc hlen hl nn (k + 1) s (by omega) (by omega) (by omega)
          rw [show ((k + 1 : Nat) : Int) = (k : Int) + 1 by omega] at ih
          exact ih
    · have : k = b.length := by omega
      rw [if_neg (by omega)]
      right
      exact ⟨rfl, by rw [← this]; exact he⟩
theorem compare_F {n : Nat} {X Y : Int} (x0 : 0 ≤ X) (x1 : X < 256 ^ n) (y0 : 0 ≤ Y) (y1 : Y < 256 ^ n) (hn : n < 1099511627776) (hN : n < N) :
    ∃ r, Rc.compare8.F N (tb n X) (tb n Y) = some r ∧ (r < 0 ↔ X < Y) := by
  unfold Rc.compare8.F
  have h := compare_loop (N := N) (ex := tb n X) (ey := tb n Y) (tb_bytes n X) (tb_bytes n Y) (by rw [tb_len, tb_len]) (by rw [tb_len]; exact hn) N 0 0 (by omega) (by rw [tb_len]; omega) rfl
  rw [tb_len, cp_tb n X x0 x1, cp_tb n Y y0 y1, show ((0 : Nat) : Int) = 0 from rfl] at h
  simp only [tb_len]
  rcases h with ⟨r, h1, _, h3⟩ | ⟨h1, h2⟩
  · rw [h1, osum_inr]; exact ⟨r, rfl, h3⟩
  · rw [h1, osum_inl, br_dec, if_neg (by omega)]; exact ⟨(0 : Int), rfl, fun h => absurd h (by decide : ¬ (0 : Int) < 0), fun h => by omega⟩
end
end Go.Pl
