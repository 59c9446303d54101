/-
  Chapter 3's statements in plain words: bounds; Tell never falls.
  Conditions: none.
-/
import Derived.Test.YtihbpcggomabcaaPlRc7
set_option linter.unusedSimpArgs false
set_option linter.unusedVariables false
namespace Go.Pl
open Go.Eng Go.Proofs

theorem bl_mul {x : Int} (h : 1 ≤ x) (s : Nat) : bl (x * 2 ^ s) = s + bl x := by
  have hp := p2pos s
  have e : x * 2 ^ s / 2 ^ s = x := Int.mul_ediv_cancel _ (by omega)
  have := bl_shift (x := x * 2 ^ s) s (by rw [e]; exact h)
  rw [e] at this
  exact this

theorem Q.norm_rng (b : List Int) : ∀ (n : Nat) (q : Q), ∃ d : Nat, (Q.norm b n q).m = q.m + d ∧ (Q.norm b n q).rng = q.rng * 2 ^ (8 * d)
  | 0, q => ⟨0, rfl, by simp [Q.norm]⟩
  | n + 1, q => by
    simp only [Q.norm]
    split
    · obtain ⟨d, h1, h2⟩ := Q.norm_rng b n (q.step b)
      refine ⟨d + 1, by rw [h1]; simp only [Q.step]; omega, ?_⟩
      rw [h2]
      simp only [Q.step]
      rw [show 8 * (d + 1) = 8 + 8 * d by omega, Int.pow_add, ← Int.mul_assoc]
      rfl
    · exact ⟨0, rfl, by simp⟩

/-- Going on tells nothing. -/
theorem Q.on_tell (b : List Int) {q : Q} (h : 1 ≤ q.rng) (c : Int) : (q.on b).tell (ct c q (q.on b)) = c - bl q.rng := by
  obtain ⟨d, h1, h2⟩ := Q.norm_rng b 4 q
  unfold Q.tell ct Q.on
  rw [h1, h2, bl_mul h]
  omega

theorem Q.tk_tell {b : List Int} {q : Q} (h : q.Ok) {fl fh ft : Int} (t : Takes q fl fh ft) (c : Int) : q.tell c ≤ (q.tk b fl fh ft).tell (ct c q (q.tk b fl fh ft)) := by
  have hp := q.tk0_pre h t
  have h1 := Q.on_tell b hp.r0 c
  have h2 : ct c (q.tk0 fl fh ft) ((q.tk0 fl fh ft).on b) = ct c q (q.tk b fl fh ft) := rfl
  have h3 : (q.tk0 fl fh ft).on b = q.tk b fl fh ft := rfl
  rw [h2, h3] at h1
  rw [h1]
  obtain ⟨k1, k2, k3, k4, k5, k6⟩ := t.bounds h
  have : (q.tk0 fl fh ft).rng ≤ q.rng := by
    simp only [Q.tk0]
    split <;> omega
  have := bl_mono this
  unfold Q.tell
  omega

theorem Q.sy_tell {b : List Int} {q : Q} (h : q.Ok) {t : List Int} (g : GoodT t) (c : Int) : q.tell c ≤ (q.sy b t).tell (ct c q (q.sy b t)) := Q.tk_tell h (Q.sk_spec h g).2 c
theorem Q.un_tell {b : List Int} {q : Q} (h : q.Ok) {ft : Int} (h0 : 1 < ft) (h1 : ft ≤ 4294967295) (c : Int) : q.tell c ≤ (q.un b ft).tell (ct c q (q.un b ft)) := by
  unfold Q.un
  split
  · exact Q.tk_tell h (ch_takes h (by omega) (by omega)) c
  · obtain ⟨_, _, _, u0, u1⟩ := ub_range (ft := ft) (by omega) h1
    exact Q.tk_tell h (ch_takes h u0 (by omega)) c

theorem nlt {a b : Int} (h : b ≤ a) : ¬ a < b := Int.not_lt.mpr h

theorem bounds_loop {N : Nat} {b : List Int} {l : List Rc.Act3} (hb : Bytes b) (hl : b.length ≤ 2000) (hN : 300 ≤ N) (hll : l.length ≤ 100) :
    ∀ (nn i : Nat) (q : Q) (w : W) (count was : Int) (s bad : Bool), q.Ok → w.Ok → 0 ≤ count → count + 80 * ((l.length : Int) - i) < 1000000 → was ≤ q.tell count → i ≤ l.length → l.length - i < nn →
      ∃ r, Rc.rcBounds.loop8 N b l nn b was (i : Int) q.rng q.val q.last (fr b q.m) (fr b w.k) w.win (w.wai : Int) count s bad = some (Sum.inl r)
  | 0, i, q, w, count, was, s, bad, _, _, _, _, _, _, h => by omega
  | nn + 1, i, q, w, count, was, s, bad, hq, hw, hc0, hc1, hwas, hi, h => by
    unfold Rc.rcBounds.loop8
    simp only [br_dec, chkI_same, chkB_same, chkL_same, br_beq]
    by_cases hlt : i < l.length
    · rw [if_pos (by omega), chk_pos (by omega), i64 (x := (i : Int) + 1) (by omega) (by omega)]
      have hnext : ((i + 1 : Nat) : Int) = (i : Int) + 1 := by omega
      generalize hx : l.getD (i : Int).toNat Rc.Act3.nil = x
      have again := fun q w count was bad h1 h2 h3 h4 h5 => bounds_loop (N := N) (b := b) (l := l) hb hl hN hll nn (i + 1) q w count was s bad h1 h2 h3 h4 h5 (by omega) (by omega)
      rw [hnext] at again
      by_cases h0 : x.op = 0
      · rw [if_pos h0]
        have hs := symbol_F (N := N) (back := fr b w.k) (window := w.win) (waiting := (w.wai : Int)) (bad := bad) hb (by omega) hq x.t hc0 (by omega) hN
        by_cases g : GoodT x.t
        · have hm := q.sy_m b x.t
          have hcr := ct_range (b := b) hm count
          have hq2 := Q.sy_ok hb hq g
          have htl := Q.sy_tell (b := b) hq g count
          have hk := (Q.sk_spec hq g).1
          rw [hs.1 g, obind_of, rgood_F x.t hN, obind_of, goodT_true.2 g, br_true]
          simp only
          rw [if_neg (by omega), if_neg (by omega), tell_F hq2 (by omega) (by omega), obind_of, if_neg (nlt (by omega)), obind_of]
          exact again _ w _ _ _ hq2 hw (by omega) (by omega) (Int.le_refl _)
        · rw [hs.2 g, obind_of, rgood_F x.t hN, obind_of, goodT_false.2 g, br_false]
          simp only
          rw [if_neg (by omega), if_neg (by omega), tell_F hq (by omega) (by omega), obind_of, if_neg (nlt (by omega)), obind_of]
          exact again q w _ _ _ hq hw (by omega) (by omega) (Int.le_refl _)
      rw [if_neg h0]
      by_cases h2 : x.op = 2
      · rw [if_pos h2, bits_F hb (by omega) hw x.n (by omega) (by omega) hN]
        by_cases hn : 0 ≤ x.n ∧ x.n ≤ 24
        · obtain ⟨v0, v1⟩ := W.val_range (b := b) w x.n.toNat
          have hp : (2 : Int) ^ x.n.toNat ≤ 16777216 := p2le (b := 24) (by omega)
          rw [if_pos hn, obind_of, if_pos (by omega), if_pos (by omega), u64 (x := x.n) (by omega) (by omega), chk_pos (by omega)]
          simp only
          rw [if_neg (by omega), bits_i64, show min x.n.toNat 64 = x.n.toNat by omega, Int.one_mul, i64 (x := 2 ^ x.n.toNat) (by omega) (by omega), if_neg (by omega), tell_F hq (by omega) (by omega), obind_of, if_neg (nlt (by unfold Q.tell at hwas ⊢; omega)), obind_of]
          exact again q _ _ _ _ hq (W.next_ok hb hw (by omega)) (by omega) (by omega) (Int.le_refl _)
        · rw [if_neg hn, obind_of]
          simp only
          rw [tell_F hq (by omega) (by omega), obind_of, obind_of]
          have e1 : (if (0 : Int) < 0 then omap (some false) Sum.inr else if (0 : Int) ≥ 1 then omap (some false) Sum.inr else if q.tell count < was then omap (some false) Sum.inr else Rc.rcBounds.loop8 N b l nn b (q.tell count) ((i : Int) + 1) q.rng q.val q.last (fr b q.m) (fr b w.k) w.win (w.wai : Int) count s bad) =
            Rc.rcBounds.loop8 N b l nn b (q.tell count) ((i : Int) + 1) q.rng q.val q.last (fr b q.m) (fr b w.k) w.win (w.wai : Int) count s bad := by
            rw [if_neg (by omega), if_neg (by omega), if_neg (by omega)]
          by_cases ha : x.n ≥ 0
          · rw [if_pos ha, if_neg (by omega), e1]
            exact again q w _ _ _ hq hw (by omega) (by omega) (Int.le_refl _)
          · rw [if_neg ha, e1]
            exact again q w _ _ _ hq hw (by omega) (by omega) (Int.le_refl _)
      rw [if_neg h2]
      by_cases h3 : x.op = 3
      · rw [if_pos h3]
        by_cases ho : x.n ≤ 1 ∨ x.n > 4294967295
        · rw [uint_out ho, obind_of]
          simp only
          rw [tell_F hq (by omega) (by omega), obind_of, obind_of]
          by_cases ha : x.n ≥ 1
          · rw [if_pos ha]
            by_cases hb2 : x.n ≤ 4294967295
            · rw [if_pos hb2, if_neg (by omega), if_neg (by omega), if_neg (nlt (by omega))]
              exact again q w _ _ _ hq hw (by omega) (by omega) (Int.le_refl _)
            · rw [if_neg hb2, if_neg (by omega), if_neg (by omega), if_neg (nlt (by omega))]
              exact again q w _ _ _ hq hw (by omega) (by omega) (Int.le_refl _)
          · rw [if_neg ha, if_neg (by omega), if_neg (by omega), if_neg (nlt (by omega))]
            exact again q w _ _ _ hq hw (by omega) (by omega) (Int.le_refl _)
        · have hq2 := Q.un_ok hb hq (ft := x.n) (by omega) (by omega)
          have hm := Q.un_m b q x.n
          have hcr := ct_range (b := b) hm count
          have htl := Q.un_tell (b := b) hq (ft := x.n) (by omega) (by omega) count
          by_cases hsm : x.n ≤ 256
          · obtain ⟨c0, c1⟩ := Q.ch_range hq (ft := x.n) (by omega) (by omega)
            rw [uint_small hb (by omega) hq (by omega) hsm hc0 (by omega) hN, obind_of]
            simp only
            rw [if_pos (by omega), if_pos (by omega), if_neg (by omega), if_neg (by omega), tell_F hq2 (by omega) (by omega), obind_of, if_neg (nlt (by omega)), obind_of]
            exact again _ w _ _ _ hq2 hw (by omega) (by omega) (Int.le_refl _)
          · obtain ⟨b0, b1, _⟩ := ub_range (ft := x.n) (by omega) (by omega)
            obtain ⟨v0, v1, _, _⟩ := uv_range (b := b) hq w (ft := x.n) (by omega) (by omega)
            rw [uint_great hb (by omega) hq hw (by omega) (by omega) hc0 (by omega) hN, obind_of]
            simp only
            rw [if_pos (by omega), if_pos (by omega), if_neg (by split <;> omega), if_neg (by split <;> omega), tell_F hq2 (by omega) (by omega), obind_of, if_neg (nlt (by unfold Q.tell at hwas htl ⊢; omega)), obind_of]
            exact again _ _ _ _ _ hq2 (W.next_ok hb hw b1) (by omega) (by omega) (Int.le_refl _)
      · rw [if_neg h3, tell_F hq (by omega) (by omega), obind_of, if_neg (nlt (by omega)), obind_of]
        exact again q w _ _ _ hq hw (by omega) (by omega) (Int.le_refl _)
    · rw [if_neg (by omega)]
      exact ⟨_, rfl⟩

theorem rcBounds_pure (b : List Int) (l : List Rc.Act3) (hw : WfL .u8 b) : ∃ N, Rc.rcBounds.F N b l = some true := by
  refine ⟨2000, ?_⟩
  have hb := bytes_of hw
  unfold Rc.rcBounds.F
  rw [awake_F (by omega), obind_of]
  simp only [br_dec, br_not, if_true]
  by_cases h1 : (b.length : Int) > 2000
  · rw [if_pos h1]
  rw [if_neg h1]
  by_cases h2 : (l.length : Int) > 100
  · rw [if_pos h2]
  rw [if_neg h2, new_F hb (by omega) (by omega), obind_of]
  simp only
  have hc := cnew_range b
  rw [tell_F (Q.new_ok hb) hc.1 (by omega), obind_of]
  obtain ⟨r, hr⟩ := bounds_loop (N := 2000) (b := b) (l := l) hb (by omega) (by omega) (by omega) 2000 0 (Q.new b) W.new (cnew b) ((Q.new b).tell (cnew b)) false false (Q.new_ok hb) W.new_ok hc.1 (by omega) (Int.le_refl _) (by omega) (by omega)
  simp only [W.new] at hr
  rw [show ((0 : Nat) : Int) = 0 from rfl, show fr b 0 = 0 by simp [fr]] at hr
  rw [hr, osum_inl]
end Go.Pl
