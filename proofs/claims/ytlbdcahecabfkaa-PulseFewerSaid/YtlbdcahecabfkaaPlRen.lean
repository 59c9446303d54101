/-
  Chapter 4 in plain words: what renc's functions come to (the register, symbols, flags, bits, numbers).
  Conditions: none.
-/
import Derived.Test.YtlbdcahecabfkaaPlE2
import Derived.Test.YtlbdcahecabfkaaRencFns
set_option linter.unusedSimpArgs false
set_option linter.unusedVariables false
namespace Go.Pl
open Go.Eng Go.Proofs
theorem set_mid {A B : List Int} {x y : Int} {n : Nat} (h : A.length = n) : (A ++ x :: B).set n y = A ++ y :: B := by
  subst h
  rw [List.set_append_right _ _ (Nat.le_refl _)]
  simp
theorem get_mid {A B : List Int} {x : Int} {n : Nat} (h : A.length = n) : (A ++ x :: B).getD n 0 = x := by
  subst h
  simp [List.getD_eq_getElem?_getD]
section
variable {N : Nat}
theorem carry_loop {ev er erb ec : Int} {et ew : List Int} {val rng rb c : Int} {raw : List Int} : ∀ (nn j : Nat) (m : Int) (suf : List Int), 0 ≤ m → m + 1 < 256 ^ j → j < nn → j < 1099511627776 →
    Rc.ecarry.loop1 N nn ev er erb ec et ew val rng rb c raw ((j : Int) - 1) (tb j m ++ suf) = some (.inr (val, rng, rb, c, tb j (m + 1) ++ suf, raw))
  | 0, j, m, suf, h0, h1, h2, _ => by omega
  | nn + 1, 0, m, suf, h0, h1, h2, _ => by simp at h1; omega
  | nn + 1, j + 1, m, suf, h0, h1, h2, h3 => by
    have e1 : tb (j + 1) m ++ suf = tb j (m / 256) ++ (m % 256) :: suf := by simp [tb]
    unfold Rc.ecarry.loop1
    simp only [br_dec, br_bne, chkI_same, chkL_same]
    rw [show (((j + 1 : Nat) : Int)) - 1 = (j : Int) by omega, if_pos (by omega), e1, Int.toNat_natCast, get_mid (tb_len _ _), set_mid (tb_len _ _), get_mid (tb_len _ _), u8_mod]
    rw [chk_pos (by simp [tb_len]; omega), chk_pos (by simp [tb_len]; omega), chk_pos (by simp [tb_len]; omega)]
    rw [Int.pow_succ] at h1
    by_cases hx : (m % 256 + 1) % 256 = 0
    · rw [if_pos hx, i64 (by omega) (by omega), carry_loop nn j (m / 256) _ (by omega) (by omega) (by omega) (by omega)]
      have : tb (j + 1) (m + 1) ++ suf = tb j (m / 256 + 1) ++ ((m % 256 + 1) % 256) :: suf := by
        simp only [tb, List.append_assoc, List.singleton_append]
        rw [show (m + 1) / 256 = m / 256 + 1 by omega, show (m + 1) % 256 = (m % 256 + 1) % 256 by omega]
      rw [this]
    · rw [if_neg hx, omap_of]
      have : tb (j + 1) (m + 1) ++ suf = tb j (m / 256) ++ ((m % 256 + 1) % 256) :: suf := by
        simp only [tb, List.append_assoc, List.singleton_append]
        rw [show (m + 1) / 256 = m / 256 by omega, show (m + 1) % 256 = (m % 256 + 1) % 256 by omega]
      rw [this]
theorem ecarry_F {val rng rb c : Int} {raw : List Int} {k : Nat} {T : Int} (h0 : 0 ≤ T) (h1 : T + 1 < 256 ^ k) (hk : k < 1099511627776) (hN : k < N) :
    Rc.ecarry.F N val rng rb c (tb k T) raw = some (val, rng, rb, c, tb k (T + 1), raw) := by
  unfold Rc.ecarry.F
  have h := carry_loop (N := N) (ev := val) (er := rng) (erb := rb) (ec := c) (et := tb k T) (ew := raw) (val := val) (rng := rng) (rb := rb) (c := c) (raw := raw) N k T [] h0 h1 hN hk
  simp only [List.append_nil] at h
  rw [tb_len, i64 (by omega) (by omega), h, osum_inr]
theorem p23 : (2 : Int) ^ min (Int.toNat (23 : Int)) IntKind.u64.bits = 8388608 := rfl
theorem E.step_told {e : E} (h0 : 0 ≤ e.low) : e.step.told = e.told ++ [e.val / 8388608] := by
  have : e.low * 256 / 2147483648 = e.low / 2147483648 * 256 + e.low % 2147483648 / 8388608 := by omega
  simp only [E.told, E.step, E.val]
  rw [tb_snoc _ _ (by omega) (by omega), this]
theorem E.step_val (e : E) : e.step.val = e.val * 256 % 2147483648 := by
  simp only [E.val, E.step]
  omega
theorem enorm_loop {rb : Int} {raw : List Int} : ∀ (nn n : Nat) (e : E) (c : Int), e.Pre → 8388608 < e.rng * 256 ^ n → 0 ≤ c → c + 8 * n < 1152921504606846976 → e.k + n < 1099511627776 → n < nn →
    Rc.enorm.loop3 N nn rb raw e.val e.rng c e.told = some ((E.norm n e).val, (E.norm n e).rng, c + 8 * (((E.norm n e).k - e.k : Nat) : Int), (E.norm n e).told)
  | 0, n, e, c, h, hn, hc0, hc1, hk, h0 => by omega
  | nn + 1, n, e, c, h, hn, hc0, hc1, hk, h0 => by
    unfold Rc.enorm.loop3
    simp only [br_dec, chkI_same, chkL_same, p8, p23]
    have hr1 := h.r1
    have hr0 := h.r0
    have hv : 0 ≤ e.val ∧ e.val < 2147483648 := by unfold E.val; omega
    by_cases hr : e.rng ≤ 8388608
    · rw [if_pos hr]
      cases n with
      | zero => simp at hn; omega
      | succ n =>
        have hs := h.step hr
        have ih := enorm_loop (rb := rb) (raw := raw) nn n e.step (c + 8) hs (by
          simp only [E.step]
          rw [Int.pow_succ] at hn
          rw [Int.mul_assoc, Int.mul_comm 256]
          exact hn) (by omega) (by omega) (by simp only [E.step]; omega) (by omega)
        rw [bits_u64, fdiv_ediv (by omega), u8 (x := e.val / 8388608) (by omega) (by omega), u64 (x := e.val * 256) (by omega) (by omega), and31 (by omega) (by omega), u64 (x := e.val * 256 % 2147483648) (by omega) (by omega),
          u64 (x := e.rng * 256) (by omega) (by omega), i64 (x := c + 8) (by omega) (by omega), chk_pos (by simp only [E.told, tb_len, List.length_singleton]; omega), ← E.step_told h.l0, ← E.step_val]
        rw [show e.rng * 256 = e.step.rng from rfl, ih]
        have hsame := E.norm_same n e.step
        have : (E.norm (n + 1) e) = E.norm n e.step := by simp only [E.norm]; rw [if_pos hr]
        rw [this]
        simp only [E.step] at hsame ⊢
        congr 4
        omega
    · rw [if_neg hr, E.norm_stop (by omega)]
      simp
theorem enorm_F {e : E} (h : e.Pre) {T v : Int} (hT : 0 ≤ T) (v0 : 0 ≤ v) (v1 : v < 4294967296) (hl : T * 2147483648 + v = e.low) {rb c : Int} {raw : List Int} (hc0 : 0 ≤ c) (hc1 : c < 1152921504606846900)
    (hk : e.k < 1099511627770) (hN : e.k + 300 ≤ N) :
    Rc.enorm.F N v e.rng rb c (tb e.k T) raw = some (e.on.val, e.on.rng, rb, c + 8 * ((e.on.k - e.k : Nat) : Int), raw, e.on.told) := by
  unfold Rc.enorm.F
  have hloop := enorm_loop (N := N) (rb := rb) (raw := raw) N 4 e c h (by have := h.r0; omega) hc0 (by omega) (by omega) (by omega)
  have hr0 := h.r0
  have hl1 := h.l1
  rw [br_dec]
  by_cases hv : v > 2147483647
  · have e1 : T + 1 = e.low / 2147483648 := by omega
    have e2 : v % 2147483648 = e.val := by unfold E.val; omega
    rw [if_pos hv, ecarry_F hT (by omega) (by omega) (by omega), obind_of]
    simp only
    rw [bits_u64, and31 v0 (by omega), u64 (x := v % 2147483648) (by omega) (by omega), e2, e1]
    have : tb e.k (e.low / 2147483648) = e.told := rfl
    rw [this, hloop, obind_of]
    rfl
  · have e1 : T = e.low / 2147483648 := by omega
    have e2 : v = e.val := by unfold E.val; omega
    rw [if_neg hv, e1, e2]
    have : tb e.k (e.low / 2147483648) = e.told := rfl
    rw [this, hloop, obind_of]
    rfl
structure E.Lim (N : Nat) (e : E) : Prop where
  k : e.k < 1099511627000
  r : e.r < 1099511627000
  N : e.k + 400 ≤ N
theorem E.val_range (e : E) : 0 ≤ e.val ∧ e.val < 2147483648 := by unfold E.val; omega
theorem E.count_on {e d : E} (hk : e.k ≤ d.k) (hr : d.r = e.r) : e.count + 8 * ((d.k - e.k : Nat) : Int) = d.count := by unfold E.count; rw [hr]; omega
theorem etake_F {e : E} (h : e.Ok) (hl : e.Lim N) {fl fh ft : Int} (p : Place fl fh ft) {raw : List Int} :
    Rc.etake.F N fl fh ft e.val e.rng e.r e.count e.told raw = some ((e.tk fl fh ft).val, (e.tk fl fh ft).rng, (e.r : Int), (e.tk fl fh ft).count, raw, (e.tk fl fh ft).told) := by
  unfold Rc.etake.F
  obtain ⟨k1, k2, k3, k4, k5, k6, k7⟩ := E.tk0_facts h p
  obtain ⟨a1, a2, a3, a4, a5⟩ := id p
  have k0 := (e_facts h.g a1 a2).2.2
  have hr1 := h.r1
  have hg := h.g
  have hpre := E.tk0_pre h p
  obtain ⟨v0, v1⟩ := e.val_range
  have hsame := E.tk_same e fl fh ft
  have hcnt := E.count_on (e := e) (d := e.tk fl fh ft) hsame.2.2.1 hsame.1
  obtain ⟨l1, l2, l3⟩ := hl
  have hcount : 0 ≤ e.count ∧ e.count < 1152921504606846900 := by unfold E.count; omega
  have hl0 := h.l0
  rw [chk_pos (by omega), br_dec, tdiv_ediv (by omega), u64 (x := e.rng / ft) (by omega) (by omega), u64 (x := ft - fl) (by omega) (by omega), u64 (x := fh - fl) (by omega) (by omega), u64 (x := ft - fh) (by omega) (by omega)]
  have hdiv : e.low / 2147483648 * 2147483648 + e.val = e.low := by unfold E.val; omega
  by_cases hf : fl > 0
  · have hf' : 0 < fl := hf
    have et : e.tk0 fl fh ft = ⟨e.k, e.low + (e.rng - e.rng / ft * (ft - fl)), e.rng / ft * (fh - fl), e.r, e.raw⟩ := by unfold E.tk0; rw [if_pos hf']
    rw [if_pos hf, u64 (x := e.rng / ft * (ft - fl)) (by omega) (by omega), u64 (x := e.rng - _) (by omega) (by omega), u64 (x := e.val + _) (by omega) (by omega), u64 (x := e.rng / ft * (fh - fl)) (by omega) (by omega)]
    rw [et] at hpre
    have := enorm_F (N := N) hpre (T := e.low / 2147483648) (v := e.val + (e.rng - e.rng / ft * (ft - fl))) (rb := e.r) (c := e.count) (raw := raw) (by omega) (by omega) (by omega) (by simp only; omega) hcount.1 hcount.2 (by simp only; omega) (by simp only; omega)
    simp only at this
    rw [show e.told = tb e.k (e.low / 2147483648) from rfl, this, obind_of]
    simp only
    rw [← et]
    show some ((e.tk fl fh ft).val, (e.tk fl fh ft).rng, (e.r : Int), e.count + 8 * (((e.tk fl fh ft).k - e.k : Nat) : Int), raw, (e.tk fl fh ft).told) = _
    rw [hcnt]
  · have hf' : ¬ 0 < fl := hf
    have et : e.tk0 fl fh ft = ⟨e.k, e.low, e.rng - e.rng / ft * (ft - fh), e.r, e.raw⟩ := by unfold E.tk0; rw [if_neg hf']
    rw [if_neg hf, u64 (x := e.rng / ft * (ft - fh)) (by omega) (by omega), u64 (x := e.rng - _) (by omega) (by omega)]
    rw [et] at hpre
    have := enorm_F (N := N) hpre (T := e.low / 2147483648) (v := e.val) (rb := e.r) (c := e.count) (raw := raw) (by omega) (by omega) (by omega) (by simp only; omega) hcount.1 hcount.2 (by simp only; omega) (by simp only; omega)
    simp only at this
    rw [show e.told = tb e.k (e.low / 2147483648) from rfl, this, obind_of]
    simp only
    rw [← et]
    show some ((e.tk fl fh ft).val, (e.tk fl fh ft).rng, (e.r : Int), e.count + 8 * (((e.tk fl fh ft).k - e.k : Nat) : Int), raw, (e.tk fl fh ft).told) = _
    rw [hcnt]
def E.sy (e : E) (s : Nat) (t : List Int) : E := e.tk (symL t s) (256 - t.getD s 0) 256
theorem sym_place {t : List Int} (g : GoodT t) {s : Nat} (hs : s < t.length) : Place (symL t s) (256 - t.getD s 0) 256 := by
  have h1 := g.range hs
  refine ⟨by omega, by omega, ?_, ?_, by omega⟩
  · unfold symL; split
    · omega
    · have := g.range (k := s - 1) (by omega); omega
  · unfold symL; split
    · omega
    · have := g.down s (by omega) hs; omega
theorem esymbol_F {e : E} (h : e.Ok) (hl : e.Lim N) (s : Int) (t : List Int) {raw : List Int} :
    (GoodT t ∧ 0 ≤ s ∧ s < t.length → Rc.esymbol.F N s e.val e.rng e.r e.count t e.told raw = some (0, (e.sy s.toNat t).val, (e.sy s.toNat t).rng, (e.r : Int), (e.sy s.toNat t).count, raw, (e.sy s.toNat t).told)) ∧
    (¬ (GoodT t ∧ 0 ≤ s ∧ s < t.length) → Rc.esymbol.F N s e.val e.rng e.r e.count t e.told raw = some (1, e.val, e.rng, (e.r : Int), e.count, raw, e.told)) := by
  unfold Rc.esymbol.F
  rw [good_F t (by have := hl.N; omega), obind_of, br_not]
  simp only [br_dec]
  refine ⟨fun ⟨g, s0, s1⟩ => ?_, fun hn => ?_⟩
  · rw [goodT_true.2 g, if_pos rfl, if_neg (by omega), if_neg (by omega)]
    obtain ⟨k, rfl⟩ := Int.eq_ofNat_of_zero_le s0
    have hk : k < t.length := by omega
    have p := sym_place g hk
    have hr := g.range hk
    have htk := etake_F h hl p (raw := raw)
    rw [Int.toNat_natCast]
    have n1 := g.n1
    have hfh : IntKind.u64.wrap (IntKind.i64.wrap (256 - t.getD k 0)) = 256 - t.getD k 0 := by rw [i64 (by omega) (by omega), u64 (by omega) (by omega)]
    by_cases hz : (k : Int) > 0
    · have hpr := g.range (k := k - 1) (by omega)
      have efl : symL t k = 256 - t.getD (k - 1) 0 := by unfold symL; rw [if_neg (by omega)]
      rw [if_pos hz, i64 (x := (k : Int) - 1) (by omega) (by omega), chk_pos (by omega), chk_pos (by omega), show ((k : Int) - 1).toNat = k - 1 by omega, hfh, i64 (x := 256 - t.getD (k - 1) 0) (by omega) (by omega), u64 (x := 256 - t.getD (k - 1) 0) (by omega) (by omega), ← efl, htk, obind_of]
      rfl
    · have : k = 0 := by omega
      subst this
      have efl : symL t 0 = 0 := rfl
      rw [if_neg hz, chk_pos (by omega), hfh, u64 (x := 0) (by omega) (by omega)]
      rw [efl] at htk
      rw [htk, obind_of]
      rfl
  · by_cases g : GoodT t
    · rw [goodT_true.2 g, if_pos rfl]
      by_cases s0 : s < 0
      · rw [if_pos s0]
      · rw [if_neg s0, if_pos]
        rcases Int.lt_or_le s t.length with h1 | h1
        · exact absurd ⟨g, by omega, h1⟩ hn
        · exact h1
    · rw [goodT_false.2 g, if_neg (by simp)]
theorem eflag_F {e : E} (h : e.Ok) (hl : e.Lim N) (v : Bool) (n : Int) {raw : List Int} :
    Rc.eflag.F N n e.val e.rng e.r e.count v e.told raw =
      some (if 1 ≤ n ∧ n ≤ 15 then (0, (e.fl v n.toNat).val, (e.fl v n.toNat).rng, (e.r : Int), (e.fl v n.toNat).count, raw, (e.fl v n.toNat).told) else (1, e.val, e.rng, (e.r : Int), e.count, raw, e.told)) := by
  unfold Rc.eflag.F
  simp only [br_dec]
  by_cases n0 : n < 1
  · rw [if_pos n0, if_neg (by omega)]
  by_cases n1 : n > 15
  · rw [if_neg n0, if_pos n1, if_neg (by omega)]
  rw [if_neg n0, if_neg n1, if_pos (show 1 ≤ n ∧ n ≤ 15 by omega), chk_pos (by omega), bits_u64, show min n.toNat 64 = n.toNat by omega, fdiv_ediv (by have := p2pos n.toNat; omega)]
  obtain ⟨k1, k2⟩ := E.f0_facts h (n := n.toNat) (by omega) (by omega)
  have hpre := E.f0_pre h v (n := n.toNat) (by omega) (by omega)
  have hr1 := h.r1
  have hg := h.g
  obtain ⟨v0, v1⟩ := e.val_range
  have hsame := E.fl_same e v n.toNat
  have hcnt := E.count_on (e := e) (d := e.fl v n.toNat) hsame.2.2.1 hsame.1
  obtain ⟨l1, l2, l3⟩ := hl
  have hcount : 0 ≤ e.count ∧ e.count < 1152921504606846900 := by unfold E.count; omega
  have hl0 := h.l0
  have hdiv : e.low / 2147483648 * 2147483648 + e.val = e.low := by unfold E.val; omega
  cases v with
  | true =>
    have et : e.f0 true n.toNat = ⟨e.k, e.low + (e.rng - e.rng / 2 ^ n.toNat), e.rng / 2 ^ n.toNat, e.r, e.raw⟩ := rfl
    rw [br_true, u64 (x := e.rng - _) (by omega) (by omega), u64 (x := e.val + _) (by omega) (by omega)]
    rw [et] at hpre
    have := enorm_F (N := N) hpre (T := e.low / 2147483648) (v := e.val + (e.rng - e.rng / 2 ^ n.toNat)) (rb := e.r) (c := e.count) (raw := raw) (by omega) (by omega) (by omega) (by simp only; omega) hcount.1 hcount.2 (by simp only; omega) (by simp only; omega)
    simp only at this
    rw [show e.told = tb e.k (e.low / 2147483648) from rfl, this, obind_of]
    simp only
    rw [← et]
    show some (0, (e.fl true n.toNat).val, (e.fl true n.toNat).rng, (e.r : Int), e.count + 8 * (((e.fl true n.toNat).k - e.k : Nat) : Int), raw, (e.fl true n.toNat).told) = _
    rw [hcnt]
  | false =>
    have et : e.f0 false n.toNat = ⟨e.k, e.low, e.rng - e.rng / 2 ^ n.toNat, e.r, e.raw⟩ := rfl
    rw [br_false, u64 (x := e.rng - _) (by omega) (by omega)]
    rw [et] at hpre
    have := enorm_F (N := N) hpre (T := e.low / 2147483648) (v := e.val) (rb := e.r) (c := e.count) (raw := raw) (by omega) (by omega) (by omega) (by simp only; omega) hcount.1 hcount.2 (by simp only; omega) (by simp only; omega)
    simp only at this
    rw [show e.told = tb e.k (e.low / 2147483648) from rfl, this, obind_of]
    simp only
    rw [← et]
    show some (0, (e.fl false n.toNat).val, (e.fl false n.toNat).rng, (e.r : Int), e.count + 8 * (((e.fl false n.toNat).k - e.k : Nat) : Int), raw, (e.fl false n.toNat).told) = _
    rw [hcnt]
theorem le_snoc0 : ∀ (j : Nat) (R : Int), 0 ≤ R → R < 256 ^ j → le j R ++ [0] = le (j + 1) R
  | 0, R, h0, h1 => by
    simp at h1
    have : R = 0 := by omega
    subst this
    rfl
  | j + 1, R, h0, h1 => by
    rw [Int.pow_succ] at h1
    have := le_snoc0 j (R / 256) (by omega) (by omega)
    simp only [le, List.cons_append] at this ⊢
    rw [this]
theorem le_put {k j q : Nat} {R d : Int} (h0 : 0 ≤ R) (hR : R < 256 ^ j * 2 ^ q) (hq : q ≤ 7) (d0 : 0 ≤ d) (d1 : d ≤ 1) (hj : j < k) :
    (le k R).set j (R / 256 ^ j + d * 2 ^ q) = le k (R + d * (256 ^ j * 2 ^ q)) := by
  have hpj := p256pos j
  have hpq := p2pos q
  have hq7 : (2 : Int) ^ q ≤ 128 := p2le (b := 7) hq
  have hy0 : 0 ≤ R / 256 ^ j := Int.ediv_nonneg h0 (by omega)
  have hy1 : R / 256 ^ j < 2 ^ q := by rw [Int.ediv_lt_iff_lt_mul hpj, Int.mul_comm]; exact hR
  have hd : d * 2 ^ q ≤ 1 * 2 ^ q := Int.mul_le_mul_of_nonneg_right d1 (by omega)
  have hd0 : 0 ≤ d * 2 ^ q := Int.mul_nonneg d0 (by omega)
  apply le_ext (by simp [le_len])
  intro i hi
  simp only [List.length_set, le_len] at hi
  have e1 : d * (256 ^ j * 2 ^ q) = 256 ^ j * (d * 2 ^ q) := by rw [Int.mul_left_comm]
  rw [le_get k _ i hi, e1, List.getD_eq_getElem?_getD, List.getElem?_set]
  by_cases hij : j = i
  · subst hij
    rw [if_pos rfl, if_pos (by rw [le_len]; exact hi), Int.add_mul_ediv_left _ _ (by omega), Option.getD_some, Int.emod_eq_of_lt (by omega) (by omega)]
  · rw [if_neg hij, ← List.getD_eq_getElem?_getD, le_get k _ i hi]
    have hpi := p256pos i
    rcases Nat.lt_or_ge i j with h | h
    · have : (256 : Int) ^ j = 256 ^ i * (256 ^ (j - i - 1) * 256) := by rw [← Int.pow_succ, ← Int.pow_add]; congr 1; omega
      rw [this, Int.mul_assoc (256 ^ i), Int.add_mul_ediv_left _ _ (by omega), Int.mul_assoc (256 ^ (j - i - 1)), Int.mul_left_comm (256 ^ (j - i - 1)), Int.add_mul_emod_self_left]
    · have h2 : (256 : Int) ^ i = 256 ^ j * 256 * 256 ^ (i - j - 1) := by rw [← Int.pow_succ, ← Int.pow_add]; congr 1; omega
      have hp2 := p256pos (i - j - 1)
      have h3 : (256 : Int) ^ j * 256 * 1 ≤ 256 ^ j * 256 * 256 ^ (i - j - 1) := Int.mul_le_mul_of_nonneg_left (by omega) (by omega)
      have h4 : 256 ^ j * (d * 2 ^ q) ≤ 256 ^ j * 2 ^ q := Int.mul_le_mul_of_nonneg_left (by omega) (by omega)
      have h5 : (256 : Int) ^ j * 2 ^ q ≤ 256 ^ j * 128 := Int.mul_le_mul_of_nonneg_left hq7 (by omega)
      have h6 : 0 ≤ 256 ^ j * (d * 2 ^ q) := Int.mul_nonneg (by omega) hd0
      rw [Int.ediv_eq_zero_of_lt h0 (by omega), Int.ediv_eq_zero_of_lt (by omega) (by omega)]
theorem bit_of {v : Int} {i : Nat} (hi : i ≤ 24) : IntKind.u8.wrap (IntKind.i64.wrap ↑(BitVec.ofInt IntKind.i64.bits (v.fdiv (2 ^ min (i : Int).toNat IntKind.i64.bits)) &&& BitVec.ofInt IntKind.i64.bits 1).toNat) = v / 2 ^ i % 2 := by
  rw [bits_i64, Int.toNat_natCast, show min i 64 = i by omega, fdiv_ediv (by have := p2pos i; omega), and_mask_any (w := 64) (k := 1) (m := 1) _ rfl (by omega), show (2 : Int) ^ 1 = 2 from rfl, i64 (by omega) (by omega), u8 (by omega) (by omega)]
theorem or_bit {y d : Int} {q : Nat} (hq : q ≤ 7) (y0 : 0 ≤ y) (y1 : y < 2 ^ q) (d0 : 0 ≤ d) (d1 : d ≤ 1) :
    IntKind.u8.wrap ↑(BitVec.ofInt IntKind.u8.bits y ||| BitVec.ofInt IntKind.u8.bits (IntKind.u8.wrap (d * 2 ^ min q IntKind.u8.bits))).toNat = y + d * 2 ^ q := by
  have hpq := p2pos q
  have hq7 : (2 : Int) ^ q ≤ 128 := p2le (b := 7) hq
  have hd : d * 2 ^ q ≤ 1 * 2 ^ q := Int.mul_le_mul_of_nonneg_right d1 (by omega)
  have hd0 : 0 ≤ d * 2 ^ q := Int.mul_nonneg d0 (by omega)
  rw [bits_u8, show min q 8 = q by omega, u8 (x := d * 2 ^ q) hd0 (by omega), or_comm', or_add d0 (by show d * 2 ^ q < 256; omega) y0 y1 (by omega), u8 (by omega) (by omega)]
  omega
theorem ebits_loop {v : Int} {n : Nat} {val rng count : Int} {told : List Int} {r : Nat} {raw : Int} (hn : n ≤ 24) (w0 : 0 ≤ raw) (w1 : raw < 2 ^ r) (hr : r < 1099511627000) : ∀ (nn i : Nat), i ≤ n → n - i < nn →
    Rc.ebits.loop4 N nn v n val rng count told (i : Int) ((r + i : Nat) : Int) (le ((r + i + 7) / 8) (raw + v % 2 ^ i * 2 ^ r)) = some (((r + n : Nat) : Int), le ((r + n + 7) / 8) (raw + v % 2 ^ n * 2 ^ r))
  | 0, i, hi, h0 => by omega
  | nn + 1, i, hi, h0 => by
    unfold Rc.ebits.loop4
    simp only [br_dec, br_beq, chkI_same, chkL_same]
    by_cases hlt : i < n
    · have ih := ebits_loop (v := v) (val := val) (rng := rng) (count := count) (told := told) hn w0 w1 hr nn (i + 1) (by omega) (by omega)
      have hpi := p2pos i
      have hpr := p2pos r
      have hm0 := Int.emod_nonneg v (show (2 : Int) ^ i ≠ 0 by omega)
      have hm1 := Int.emod_lt_of_pos v hpi
      have hR0 : 0 ≤ raw + v % 2 ^ i * 2 ^ r := by have := Int.mul_nonneg hm0 (show 0 ≤ (2 : Int) ^ r by omega); omega
      have hR1 : raw + v % 2 ^ i * 2 ^ r < 256 ^ ((r + i) / 8) * 2 ^ ((r + i) % 8) := by
        rw [← pow_split, Int.pow_add]
        have : v % 2 ^ i * 2 ^ r ≤ (2 ^ i - 1) * 2 ^ r := Int.mul_le_mul_of_nonneg_right (by omega) (by omega)
        rw [Int.sub_mul, Int.one_mul, Int.mul_comm (2 ^ i)] at this
        omega
      have hnext : raw + v % 2 ^ (i + 1) * 2 ^ r = (raw + v % 2 ^ i * 2 ^ r) + v / 2 ^ i % 2 * (256 ^ ((r + i) / 8) * 2 ^ ((r + i) % 8)) := by
        rw [← pow_split, Int.pow_succ, emod_two_mul hpi, Int.add_mul, Int.pow_add, Int.mul_assoc, Int.mul_comm (2 ^ i) (2 ^ r)]
        omega
      have hd0 : 0 ≤ v / 2 ^ i % 2 ∧ v / 2 ^ i % 2 ≤ 1 := by omega
      have hpj := p256pos ((r + i) / 8)
      have hy0 : 0 ≤ (raw + v % 2 ^ i * 2 ^ r) / 256 ^ ((r + i) / 8) := Int.ediv_nonneg hR0 (by omega)
      have hy1 : (raw + v % 2 ^ i * 2 ^ r) / 256 ^ ((r + i) / 8) < 2 ^ ((r + i) % 8) := by rw [Int.ediv_lt_iff_lt_mul hpj, Int.mul_comm (2 ^ ((r + i) % 8))]; exact hR1
      have hq7 : (2 : Int) ^ ((r + i) % 8) ≤ 128 := p2le (b := 7) (by omega)
      rw [if_pos (by omega), tmod_emod (by omega), tdiv_ediv (by omega), i64 (x := ((r + i : Nat) : Int) / 8) (by omega) (by omega), i64 (x := (i : Int) + 1) (by omega) (by omega), i64 (x := ((r + i : Nat) : Int) + 1) (by omega) (by omega), bit_of (by omega),
        show ((r + i : Nat) : Int) / 8 = (((r + i) / 8 : Nat) : Int) by omega, show ((r + i : Nat) : Int) % 8 = (((r + i) % 8 : Nat) : Int) by omega, Int.toNat_natCast, Int.toNat_natCast]
      by_cases h8 : (r + i) % 8 = 0
      · have hlen : (r + i + 7) / 8 = (r + i) / 8 := by omega
        have hlen2 : (r + (i + 1) + 7) / 8 = (r + i) / 8 + 1 := by omega
        have happ : le ((r + i) / 8) (raw + v % 2 ^ i * 2 ^ r) ++ [0] = le ((r + i) / 8 + 1) (raw + v % 2 ^ i * 2 ^ r) := le_snoc0 _ _ hR0 (by rw [h8] at hR1; simpa using hR1)
        rw [if_pos (by omega), hlen, happ, chk_pos (by simp [le_len]; omega), chk_pos (by simp only [le_len]; omega), chk_pos (by omega), chk_pos (by omega), chk_pos (by simp only [le_len]; omega), le_get _ _ _ (by omega), Int.emod_eq_of_lt hy0 (by omega),
          or_bit (by omega) hy0 hy1 hd0.1 hd0.2, le_put hR0 hR1 (by omega) hd0.1 hd0.2 (by omega), ← hnext, ← hlen2]
        rw [show ((i + 1 : Nat) : Int) = (i : Int) + 1 by omega, show ((r + (i + 1) : Nat) : Int) = ((r + i : Nat) : Int) + 1 by omega] at ih
        exact ih
      · have hlen : (r + i + 7) / 8 = (r + i) / 8 + 1 := by omega
        have hlen2 : (r + (i + 1) + 7) / 8 = (r + i) / 8 + 1 := by omega
        rw [if_neg (by omega), hlen, chk_pos (by simp only [le_len]; omega), chk_pos (by omega), chk_pos (by omega), chk_pos (by simp only [le_len]; omega), le_get _ _ _ (by omega), Int.emod_eq_of_lt hy0 (by omega),
          or_bit (by omega) hy0 hy1 hd0.1 hd0.2, le_put hR0 hR1 (by omega) hd0.1 hd0.2 (by omega), ← hnext, ← hlen2]
        rw [show ((i + 1 : Nat) : Int) = (i : Int) + 1 by omega, show ((r + (i + 1) : Nat) : Int) = ((r + i : Nat) : Int) + 1 by omega] at ih
        exact ih
    · have : i = n := by omega
      subst this
      rw [if_neg (by omega)]
theorem ebits_F {e : E} (h : e.Ok) (l1 : e.k < 1099511627000) (l2 : e.r < 1099511627000) (l3 : 100 ≤ N) (v n : Int) {val rng : Int} {told : List Int} :
    Rc.ebits.F N v n val rng e.r e.count told e.bits =
      some (if 0 ≤ n ∧ n ≤ 24 ∧ 0 ≤ v ∧ v < 2 ^ n.toNat then (0, ((e.bt v n.toNat).r : Int), (e.bt v n.toNat).count, (e.bt v n.toNat).bits) else (1, (e.r : Int), e.count, e.bits)) := by
  unfold Rc.ebits.F
  simp only [br_dec, chkI_same, chkL_same]
  by_cases n0 : n < 0
  · rw [if_pos n0, if_neg (by omega)]
  by_cases n1 : n > 24
  · rw [if_neg n0, if_pos n1, if_neg (by omega)]
  by_cases v0 : v < 0
  · rw [if_neg n0, if_neg n1, if_pos v0, if_neg (by omega)]
  obtain ⟨k, rfl⟩ := Int.eq_ofNat_of_zero_le (show 0 ≤ n by omega)
  have hp := p2pos k
  have hp2 : (2 : Int) ^ k ≤ 16777216 := p2le (b := 24) (by omega)
  rw [if_neg n0, if_neg n1, if_neg v0, chk_pos (by omega), Int.toNat_natCast, bits_i64, show min k 64 = k by omega, Int.one_mul, i64 (x := 2 ^ k) (by omega) (by omega)]
  by_cases v1 : v ≥ 2 ^ k
  · rw [if_pos v1, if_neg (by omega)]
  have := ebits_loop (N := N) (v := v) (n := k) (val := val) (rng := rng) (count := e.count) (told := told) (by omega) h.w0 h.w1 l2 N 0 (by omega) (by omega)
  simp only [Int.pow_zero, Nat.add_zero, Int.emod_one, Int.zero_mul, Int.add_zero] at this
  rw [if_neg v1, if_pos (by omega)]
  have e0 : e.bits = le ((e.r + 7) / 8) e.raw := rfl
  rw [show ((0 : Nat) : Int) = 0 from rfl] at this
  rw [e0, this, obind_of, Int.emod_eq_of_lt (by omega) (by omega)]
  have hc : 0 ≤ e.count ∧ e.count < 1152921504606846900 := by unfold E.count; omega
  rw [i64 (by omega) (by omega)]
  have ec : e.count + k = (e.bt v k).count := by simp only [E.bt, E.count]; omega
  rw [ec]
  rfl
end
end Go.Pl
