/-
  Plain words of chapter 3, those that hang on no law (taken out of the texts of L3 by split.py).
  Conditions: none.
-/
import Derived.Test.YtlbdcahecabfkaaPlG
set_option linter.unusedSimpArgs false
set_option linter.unusedVariables false
namespace Go.Pl
open Go.Eng Go.Proofs
def ub (ft : Int) : Nat := (bl (ft - 1) - 8).toNat
def uf (ft : Int) : Int := (ft - 1) / 2 ^ ub ft + 1
theorem ub_range {ft : Int} (h0 : 256 < ft) (h1 : ft ≤ 4294967295) : 1 ≤ ub ft ∧ ub ft ≤ 24 ∧ bl (ft - 1) = ub ft + 8 ∧ 1 ≤ uf ft ∧ uf ft ≤ 256 := by
  have a1 := bl_le (n := 32) (x := ft - 1) (by show ft - 1 < 4294967296; omega)
  have a2 := bl_mono (x := 256) (y := ft - 1) (by omega)
  have e : bl 256 = 9 := by decide +kernel
  obtain ⟨k, k1, k2, k3⟩ := bl_spec (x := ft - 1) (by omega)
  have hub : ub ft = k - 7 := by unfold ub; omega
  have hp := p2pos (ub ft)
  refine ⟨by unfold ub; omega, by unfold ub; omega, by unfold ub; omega, ?_, ?_⟩
  · unfold uf
    have : 0 ≤ (ft - 1) / 2 ^ ub ft := Int.ediv_nonneg (by omega) (by omega)
    omega
  · unfold uf
    have : (ft - 1) / 2 ^ ub ft < 256 := by
      rw [Int.ediv_lt_iff_lt_mul hp, show (256 : Int) = 2 ^ 8 from rfl, ← Int.pow_add, hub, show 8 + (k - 7) = k + 1 by omega]
      exact k3
    omega
theorem ch_takes {q : Q} (h : q.Ok) {ft : Int} (f0 : 1 ≤ ft) (f1 : ft ≤ 65536) : Takes q (q.ch ft) (q.ch ft + 1) ft := by
  obtain ⟨c0, c1⟩ := Q.ch_range h f0 f1
  exact ⟨f0, f1, c0, Int.le_refl _, by omega, by omega⟩
def Q.un (b : List Int) (q : Q) (ft : Int) : Q := if ft ≤ 256 then q.tk b (q.ch ft) (q.ch ft + 1) ft else q.tk b (q.ch (uf ft)) (q.ch (uf ft) + 1) (uf ft)
def uv (b : List Int) (q : Q) (w : W) (ft : Int) : Int := q.ch (uf ft) * 2 ^ ub ft + w.val b (ub ft)
theorem Q.un_ok {b : List Int} (hb : Bytes b) {q : Q} (h : q.Ok) {ft : Int} (h0 : 1 < ft) (h1 : ft ≤ 4294967295) : (q.un b ft).Ok := by
  unfold Q.un
  split
  · exact Q.tk_ok hb h (ch_takes h (by omega) (by omega))
  · obtain ⟨_, _, _, u0, u1⟩ := ub_range (ft := ft) (by omega) h1
    exact Q.tk_ok hb h (ch_takes h u0 (by omega))
theorem Q.un_m (b : List Int) (q : Q) (ft : Int) : q.m ≤ (q.un b ft).m ∧ (q.un b ft).m ≤ q.m + 4 := by
  unfold Q.un
  split <;> exact Q.tk_m b q _ _ _
theorem uv_range {b : List Int} {q : Q} (h : q.Ok) (w : W) {ft : Int} (h0 : 256 < ft) (h1 : ft ≤ 4294967295) : 0 ≤ uv b q w ft ∧ uv b q w ft < 4294967296 ∧ 0 ≤ q.ch (uf ft) * 2 ^ ub ft ∧ q.ch (uf ft) * 2 ^ ub ft < 4294967296 := by
  obtain ⟨b0, b1, _, u0, u1⟩ := ub_range h0 h1
  obtain ⟨c0, c1⟩ := Q.ch_range h u0 (by omega)
  obtain ⟨v0, v1⟩ := W.val_range (b := b) w (ub ft)
  have hp := p2pos (ub ft)
  have hp2 : (2 : Int) ^ ub ft ≤ 16777216 := p2le (b := 24) b1
  have k1 : 0 ≤ q.ch (uf ft) * 2 ^ ub ft := Int.mul_nonneg c0 (by omega)
  have k2 : q.ch (uf ft) * 2 ^ ub ft ≤ 255 * 2 ^ ub ft := Int.mul_le_mul_of_nonneg_right (by omega) (by omega)
  unfold uv
  omega
section
variable {N : Nat} {count : Int} {bad : Bool} {b : List Int}
theorem uint_out {back window waiting rng val last front : Int} {ft : Int} (h : ft ≤ 1 ∨ ft > 4294967295) : Rc.uint.F N ft rng val last front back window waiting count bad b = some (0, rng, val, last, front, back, window, waiting, count, bad) := by
  unfold Rc.uint.F
  simp only [br_dec, chkL_same]
  by_cases h0 : ft ≤ 1
  · rw [if_pos h0]
  · rw [if_neg h0, if_pos (by omega)]
theorem uint_small {back window waiting : Int} (hb : Bytes b) (hl : b.length < 1099511627776) {q : Q} (h : q.Ok) {ft : Int} (h0 : 1 < ft) (h1 : ft ≤ 256) (hc0 : 0 ≤ count) (hc1 : count < 1099511627776) (hN : 300 ≤ N) :
    Rc.uint.F N ft q.rng q.val q.last (fr b q.m) back window waiting count bad b =
      some (q.ch ft, (q.un b ft).rng, (q.un b ft).val, (q.un b ft).last, fr b (q.un b ft).m, back, window, waiting, ct count q (q.un b ft), bad) := by
  unfold Rc.uint.F
  simp only [br_dec, chkL_same]
  obtain ⟨c0, c1⟩ := Q.ch_range h (ft := ft) (by omega) (by omega)
  rw [if_neg (by omega), if_neg (by omega), if_pos h1, u64 (x := ft) (by omega) (by omega), choose_F h (by omega) (by omega), obind_of, u64 (x := q.ch ft + 1) (by omega) (by omega), take_F hb hl h (ch_takes h (by omega) (by omega)) hc0 hc1 (by omega), obind_of, i64 (x := q.ch ft) (by omega) (by omega)]
  simp only [Q.un, if_pos h1]
theorem uint_great (hb : Bytes b) (hl : b.length < 1099511627776) {q : Q} (h : q.Ok) {w : W} (hw : w.Ok) {ft : Int} (h0 : 256 < ft) (h1 : ft ≤ 4294967295) (hc0 : 0 ≤ count) (hc1 : count < 1099511620000) (hN : 300 ≤ N) :
    Rc.uint.F N ft q.rng q.val q.last (fr b q.m) (fr b w.k) w.win (w.wai : Int) count bad b =
      some (if uv b q w ft ≥ ft then ft - 1 else uv b q w ft, (q.un b ft).rng, (q.un b ft).val, (q.un b ft).last, fr b (q.un b ft).m, fr b (w.next b (ub ft)).k, (w.next b (ub ft)).win, ((w.next b (ub ft)).wai : Int),
        ct count q (q.un b ft) + ub ft, bad || decide (uv b q w ft ≥ ft)) := by
  unfold Rc.uint.F
  simp only [br_dec, chkL_same]
  obtain ⟨b0, b1, b2, u0, u1⟩ := ub_range h0 h1
  obtain ⟨c0, c1⟩ := Q.ch_range h u0 (by omega)
  obtain ⟨v0, v1, v2, v3⟩ := uv_range (b := b) h w h0 h1
  have eun : q.un b ft = q.tk b (q.ch (uf ft)) (q.ch (uf ft) + 1) (uf ft) := by unfold Q.un; rw [if_neg (by omega)]
  have hm := Q.un_m b q ft
  have hcr := ct_range (b := b) hm count
  rw [if_neg (by omega), if_neg (by omega), if_neg (by omega), i64 (x := ft - 1) (by omega) (by omega), u64 (x := ft - 1) (by omega) (by omega), blen_F (by omega) (by omega), obind_of, b2, i64 (x := (ub ft : Int) + 8 - 8) (by omega) (by omega),
    show (ub ft : Int) + 8 - 8 = ub ft by omega, chk_pos (by omega), Int.toNat_natCast, bits_i64, show min (ub ft) 64 = ub ft by omega, fdiv_ediv (by have := p2pos (ub ft); omega)]
  have euf : (ft - 1) / 2 ^ ub ft + 1 = uf ft := rfl
  rw [euf, i64 (x := uf ft) (by omega) (by omega), u64 (x := uf ft) (by omega) (by omega), choose_F h u0 (by omega), obind_of, u64 (x := q.ch (uf ft) + 1) (by omega) (by omega), take_F hb hl h (ch_takes h u0 (by omega)) hc0 (by omega) (by omega), obind_of, ← eun]
  simp only
  rw [chk_pos (by omega), bits_F hb hl hw (ub ft) (by omega) (by omega) hN, if_pos (by omega), obind_of]
  simp only [Int.toNat_natCast]
  rw [i64 (x := q.ch (uf ft)) (by omega) (by omega), i64 (x := q.ch (uf ft) * 2 ^ ub ft) (by omega) (by omega), show q.ch (uf ft) * 2 ^ ub ft + w.val b (ub ft) = uv b q w ft from rfl, i64 (x := uv b q w ft) (by omega) (by omega)]
  by_cases hv : uv b q w ft ≥ ft
  · rw [if_pos hv, if_pos hv]
    simp [hv]
  · rw [if_neg hv, if_neg hv]
    simp [hv]
end
theorem bl_mul {x : Int} (h : 1 ≤ x) (s : Nat) : bl (x * 2 ^ s) = s + bl x := by
  have hp := p2pos s
  have e : x * 2 ^ s / 2 ^ s = x := Int.mul_ediv_cancel _ (by omega)
  have := bl_shift (x := x * 2 ^ s) s (by rw [e]; exact h)
  rw [e] at this
  exact this
theorem Q.norm_rng (b : List Int) : ∀ (n : Nat) (q : Q), ∃ d : Nat, (Q.norm b n q).m = q.m + d ∧ (Q.norm b n q).rng = q.rng * 2 ^ (8 * d)
  | 0, q => ⟨0, rfl, by simp [Q.norm]⟩
  | n + 1, q => by
    simp only [Q.norm]
    split
    · obtain ⟨d, h1, h2⟩ := Q.norm_rng b n (q.step b)
      refine ⟨d + 1, by rw [h1]; simp only [Q.step]; omega, ?_⟩
      rw [h2]
      simp only [Q.step]
      rw [show 8 * (d + 1) = 8 + 8 * d by omega, Int.pow_add, ← Int.mul_assoc]
      rfl
    · exact ⟨0, rfl, by simp⟩
theorem Q.on_tell (b : List Int) {q : Q} (h : 1 ≤ q.rng) (c : Int) : (q.on b).tell (ct c q (q.on b)) = c - bl q.rng := by
  obtain ⟨d, h1, h2⟩ := Q.norm_rng b 4 q
  unfold Q.tell ct Q.on
  rw [h1, h2, bl_mul h]
  omega
theorem Q.tk_tell {b : List Int} {q : Q} (h : q.Ok) {fl fh ft : Int} (t : Takes q fl fh ft) (c : Int) : q.tell c ≤ (q.tk b fl fh ft).tell (ct c q (q.tk b fl fh ft)) := by
  have hp := q.tk0_pre h t
  have h1 := Q.on_tell b hp.r0 c
  have h2 : ct c (q.tk0 fl fh ft) ((q.tk0 fl fh ft).on b) = ct c q (q.tk b fl fh ft) := rfl
  have h3 : (q.tk0 fl fh ft).on b = q.tk b fl fh ft := rfl
  rw [h2, h3] at h1
  rw [h1]
  obtain ⟨k1, k2, k3, k4, k5, k6⟩ := t.bounds h
  have : (q.tk0 fl fh ft).rng ≤ q.rng := by
    simp only [Q.tk0]
    split <;> omega
  have := bl_mono this
  unfold Q.tell
  omega
theorem Q.sy_tell {b : List Int} {q : Q} (h : q.Ok) {t : List Int} (g : GoodT t) (c : Int) : q.tell c ≤ (q.sy b t).tell (ct c q (q.sy b t)) := Q.tk_tell h (Q.sk_spec h g).2 c
theorem Q.un_tell {b : List Int} {q : Q} (h : q.Ok) {ft : Int} (h0 : 1 < ft) (h1 : ft ≤ 4294967295) (c : Int) : q.tell c ≤ (q.un b ft).tell (ct c q (q.un b ft)) := by
  unfold Q.un
  split
  · exact Q.tk_tell h (ch_takes h (by omega) (by omega)) c
  · obtain ⟨_, _, _, u0, u1⟩ := ub_range (ft := ft) (by omega) h1
    exact Q.tk_tell h (ch_takes h u0 (by omega)) c
theorem nlt {a b : Int} (h : b ≤ a) : ¬ a < b := Int.not_lt.mpr h
end Go.Pl
