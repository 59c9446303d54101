/-
  Layer 8: what is read, by both.
  Conditions: none.
-/
import Derived.Test.YtlbdcahecabfkaaPlGa3
set_option linter.unusedSimpArgs false
set_option linter.unusedVariables false
namespace Go.Pl
open Go.Eng Go.Proofs

theorem pair0 (a b : Int) : ([a] ++ [b]).getD (Int.toNat 0) 0 = a := rfl
theorem pair1 (a b : Int) : ([a] ++ [b]).getD (Int.toNat 1) 0 = b := rfl
theorem len1 : (icdfT 1).length = 8 := rfl
theorem len2 : (icdfT 2).length = 17 := rfl
theorem len6 : (icdfT 6).length = 8 := rfl
theorem g1 : GoodT (icdfT 1) := icdf_good (by omega) (by omega)
theorem g2 : GoodT (icdfT 2) := icdf_good (by omega) (by omega)
theorem g6 : GoodT (icdfT 6) := icdf_good (by omega) (by omega)

section
variable {N : Nat} {b : List Int} {back window waiting count : Int} {bad : Bool}

theorem gsymbol_F (hb : Bytes b) (hl : b.length < 1099511627776) {q : Q} (h : q.Ok) {k : Int} (g : GoodT (icdfT k)) (hc0 : 0 ≤ count) (hc1 : count < 1099511627776) (hN : 300 ≤ N) :
    Rc.gsymbol.F N k q.rng q.val q.last (fr b q.m) back window waiting count bad b =
      some ((q.sk (icdfT k) : Int), (q.sy b (icdfT k)).rng, (q.sy b (icdfT k)).val, (q.sy b (icdfT k)).last, fr b (q.sy b (icdfT k)).m, ct count q (q.sy b (icdfT k))) := by
  unfold Rc.gsymbol.F
  simp only [chkI_same, chkB_same, chkL_same]
  rw [ticdf_F, obind_of, (symbol_F hb hl h (icdfT k) hc0 hc1 hN).1 g, obind_of]

theorem greadfirst_F (hb : Bytes b) (hl : b.length < 1099511627776) {q : Q} (h : q.Ok) (hc0 : 0 ≤ count) (hc1 : count < 1099511627000) (hN : 300 ≤ N) :
    Rc.greadfirst.F N q.rng q.val q.last (fr b q.m) back window waiting count bad b =
      some (8 * (q.sk (icdfT 1) : Int) + (q.sy b (icdfT 1)).ch 8, ((q.sy b (icdfT 1)).un b 8).rng, ((q.sy b (icdfT 1)).un b 8).val, ((q.sy b (icdfT 1)).un b 8).last, fr b ((q.sy b (icdfT 1)).un b 8).m, back, window, waiting,
        ct (ct count q (q.sy b (icdfT 1))) (q.sy b (icdfT 1)) ((q.sy b (icdfT 1)).un b 8), bad) := by
  unfold Rc.greadfirst.F
  simp only [chkI_same, chkB_same, chkL_same, pair0, pair1]
  have hm := ct_range (b := b) (Q.sy_m b q (icdfT 1)) count
  have hs := (Q.sk_spec h g1).1
  rw [len1] at hs
  have hq := Q.sy_ok hb h g1
  obtain ⟨e0, e1⟩ := Q.ch_range hq (ft := 8) (by omega) (by omega)
  rw [gsymbol_F hb hl h g1 hc0 (by omega) hN, obind_of]
  simp only
  rw [uint_small hb hl hq (by omega) (by omega) (by omega) (by omega) hN, obind_of]
  simp only
  rw [i64 (x := 8 * (q.sk (icdfT 1) : Int)) (by omega) (by omega), i64 (by omega) (by omega)]

theorem greadnext_F (hb : Bytes b) (hl : b.length < 1099511627776) {q : Q} (h : q.Ok) (was : Int) (hc0 : 0 ≤ count) (hc1 : count < 1099511627776) (hN : 300 ≤ N) :
    Rc.greadnext.F N was q.rng q.val q.last (fr b q.m) back window waiting count bad b =
      some (c63 (c63 was + (q.sk (icdfT 2) : Int) - 8), (q.sy b (icdfT 2)).rng, (q.sy b (icdfT 2)).val, (q.sy b (icdfT 2)).last, fr b (q.sy b (icdfT 2)).m, ct count q (q.sy b (icdfT 2))) := by
  unfold Rc.greadnext.F
  simp only [chkI_same, chkB_same, chkL_same]
  have hs := (Q.sk_spec h g2).1
  rw [len2] at hs
  have hc := c63_range was
  rw [gclamp_F, obind_of, gsymbol_F hb hl h g2 hc0 hc1 hN, obind_of]
  simp only
  rw [i64 (x := c63 was + (q.sk (icdfT 2) : Int)) (by omega) (by omega), i64 (x := c63 was + (q.sk (icdfT 2) : Int) - 8) (by omega) (by omega), gclamp_F, obind_of]

theorem uint_both8 (hb : Bytes b) (hl : b.length < 1099511627776) {q : Q} (h : q.Ok) {w : W} (hw : w.Ok) {ft : Int} (f0 : 1 ≤ ft) (f1 : ft ≤ 4294967295) (hc0 : 0 ≤ count) (hc1 : count < 1099511000000) (bad : Bool) (hN : 300 ≤ N) :
    ∃ (v : Int) (q' : Q) (bk wn wt : Int) (c' : Int) (bad' : Bool), q'.Ok ∧ 0 ≤ v ∧ v < ft ∧ 0 ≤ c' ∧ c' < 1099511627000 ∧
      Rc.uint.F N ft q.rng q.val q.last (fr b q.m) (fr b w.k) w.win (w.wai : Int) count bad b = some (v, q'.rng, q'.val, q'.last, fr b q'.m, bk, wn, wt, c', bad') ∧
      ∀ eq, ∃ eq', Rc.ruint.F N ft q.rng q.val q.last (fr b q.m) (fr b w.k) w.win (w.wai : Int) count eq bad b = some (v, q'.rng, q'.val, q'.last, fr b q'.m, bk, wn, wt, c', eq', bad') := by
  by_cases c1 : ft ≤ 1
  · exact ⟨0, q, _, _, _, count, bad, h, by omega, by omega, hc0, by omega, uint_out (Or.inl c1), fun eq => ⟨eq, ruint_out (Or.inl c1)⟩⟩
  have hm := ct_range (b := b) (Q.un_m b q ft) count
  have hok := Q.un_ok hb h (ft := ft) (by omega) f1
  by_cases c2 : ft ≤ 256
  · obtain ⟨e0, e1⟩ := Q.ch_range h (ft := ft) (by omega) (by omega)
    exact ⟨_, _, _, _, _, _, _, hok, e0, e1, by omega, by omega, uint_small hb hl h (by omega) c2 hc0 (by omega) hN, fun eq => ruint_small hb hl h (by omega) c2 hc0 (by omega) hN⟩
  · obtain ⟨b0, b1, _⟩ := ub_range (ft := ft) (by omega) f1
    obtain ⟨u0, u1, _⟩ := uv_range (b := b) h w (ft := ft) (by omega) f1
    refine ⟨_, _, _, _, _, _, _, hok, ?_, ?_, ?_, ?_, uint_great hb hl h hw (by omega) f1 hc0 (by omega) hN, fun eq => ruint_great hb hl h hw (by omega) f1 hc0 (by omega) hN⟩
    · split <;> omega
    · split <;> omega
    · omega
    · omega

theorem gainReads_pure (b : List Int) (was rate g v : Int) (hb : Bytes b) (hv : -9223372036854775808 ≤ v ∧ v < 9223372036854775808) : ∃ N, Rc.gainReads.F N b was rate g v = some true := by
  refine ⟨30000, ?_⟩
  unfold Rc.gainReads.F
  rw [awake8_F (by omega), obind_of]
  simp only [br_not, if_true, br_dec, br_beq, br_bne, chkI_same]
  by_cases k1 : b.length > 200
  · rw [if_pos (by omega)]
  have hl : b.length < 1099511627776 := by omega
  have hc := cnew_range b
  have hq := Q.new_ok hb
  -- the loudness
  have hq1 := Q.sy_ok hb hq g1
  have hs1 := (Q.sk_spec hq g1).1
  rw [len1] at hs1
  have hm1 := ct_range (b := b) (Q.sy_m b (Q.new b) (icdfT 1)) (cnew b)
  obtain ⟨u0, u1⟩ := Q.ch_range hq1 (ft := 8) (by omega) (by omega)
  have hq2 := Q.un_ok hb hq1 (ft := 8) (by omega) (by omega)
  have hm2 := ct_range (b := b) (Q.un_m b ((Q.new b).sy b (icdfT 1)) 8) (ct (cnew b) (Q.new b) ((Q.new b).sy b (icdfT 1)))
  obtain ⟨e1, r1⟩ := (rsymbol_F (N := 30000) (back := 0) (wait := 0) (waiting := 0) (count := cnew b) (eq := 0) (bad := false) hb hl hq (icdfT 1) (by omega) (by omega) (by omega)).1 g1
  obtain ⟨e2, r2⟩ := ruint_small (N := 30000) (back := 0) (wait := 0) (waiting := 0) (count := ct (cnew b) (Q.new b) ((Q.new b).sy b (icdfT 1))) (eq := e1) (bad := false) hb hl hq1 (ft := 8) (by omega) (by omega) (by omega) (by omega) (by omega)
  rw [if_neg (by omega), new_F hb hl (by omega), obind_of, rnew_F hb hl (by omega), obind_of, icdf_F, obind_of]
  simp only
  rw [r1, obind_of]
  simp only
  rw [r2, obind_of, greadfirst_F hb hl hq (by omega) (by omega) (by omega), obind_of]
  simp only
  rw [i64 (x := 8 * ((Q.new b).sk (icdfT 1) : Int)) (by omega) (by omega), i64 (x := 8 * ((Q.new b).sk (icdfT 1) : Int) + _) (by omega) (by omega), if_pos rfl]
  -- how it changes
  generalize (Q.new b).sy b (icdfT 1) = q1 at *
  generalize ct (ct (cnew b) (Q.new b) q1) q1 (q1.un b 8) = cc2 at *
  generalize q1.un b 8 = q2 at *
  have hq3 := Q.sy_ok hb hq2 g2
  have hs3 := (Q.sk_spec hq2 g2).1
  rw [len2] at hs3
  have hm3 := ct_range (b := b) (Q.sy_m b q2 (icdfT 2)) cc2
  have hw := c63_range was
  obtain ⟨e3, r3⟩ := (rsymbol_F (N := 30000) (back := 0) (wait := 0) (waiting := 0) (count := cc2) (eq := e2) (bad := false) hb hl hq2 (icdfT 2) (by omega) (by omega) (by omega)).1 g2
  rw [rclamp63, obind_of, icdf_F, obind_of, r3, obind_of]
  simp only
  rw [i64 (x := c63 was + (q2.sk (icdfT 2) : Int)) (by omega) (by omega), i64 (x := c63 was + (q2.sk (icdfT 2) : Int) - 8) (by omega) (by omega), rclamp63, obind_of, greadnext_F hb hl hq2 was (by omega) (by omega) (by omega), obind_of]
  simp only
  rw [if_pos trivial, rlags_F, obind_of]
  simp only
  generalize q2.sy b (icdfT 2) = q3 at *
  generalize ct cc2 q2 q3 = cc3 at *
  have e0 : fr b W.new.k = 0 := rfl
  have e00 : W.new.win = 0 := rfl
  have e000 : (W.new.wai : Int) = 0 := rfl
  have hlast : Rc.gloud.F 30000 g = Rc.rloud.F 30000 g := by rw [gloud_F (by omega), rloud_F (by omega)]
  have hnear : Rc.gnearest.F 30000 v = Rc.rgnearest.F 30000 v := by rw [gnearest_F v (by omega), rgnearest_F hv (by omega)]
  rcases (show (0 < lo8 rate ∧ lo8 rate ≤ 32 ∧ lo8 rate < hi8 rate ∧ hi8 rate ≤ 288) ∨ (lo8 rate = 0 ∧ hi8 rate = 0) by have := lags_of rate; omega) with ⟨l0, l1, l2, l3⟩ | ⟨l0, l1⟩
  · obtain ⟨x, q4, bk, wn, wt, c4, bad4, hq4, x0, x1, c40, c41, hu, hru⟩ := uint_both8 (N := 30000) hb hl hq3 W.new_ok (ft := hi8 rate - lo8 rate + 1) (by omega) (by omega) (count := cc3) (by omega) (by omega) false (by omega)
    rw [e0, e00, e000] at hu hru
    obtain ⟨e4, r4⟩ := hru e3
    have hq5 := Q.sy_ok hb hq4 g6
    have hs5 := (Q.sk_spec hq4 g6).1
    rw [len6] at hs5
    have hm5 := ct_range (b := b) (Q.sy_m b q4 (icdfT 6)) c4
    obtain ⟨e5, r5⟩ := (rsymbol_F (N := 30000) (back := bk) (wait := wn) (waiting := wt) (count := c4) (eq := e4) (bad := bad4) hb hl hq4 (icdfT 6) (by omega) (by omega) (by omega)).1 g6
    have hread : Rc.greadltp.F 30000 rate q3.rng q3.val q3.last (fr b q3.m) 0 0 0 cc3 false b = some (lo8 rate + x, (q4.sk (icdfT 6) : Int), (q4.sy b (icdfT 6)).rng, (q4.sy b (icdfT 6)).val, (q4.sy b (icdfT 6)).last, fr b (q4.sy b (icdfT 6)).m, bk, wn, wt, ct c4 q4 (q4.sy b (icdfT 6)), bad4) := by
      unfold Rc.greadltp.F
      simp only [chkI_same, chkB_same, chkL_same, pair0, pair1, br_beq]
      rw [glags_F, obind_of]
      simp only
      rw [if_neg (by omega), i64 (x := hi8 rate - lo8 rate) (by omega) (by omega), i64 (x := hi8 rate - lo8 rate + 1) (by omega) (by omega), hu, obind_of]
      simp only
      rw [gsymbol_F hb hl hq4 g6 (by omega) (by omega) (by omega), obind_of]
      simp only
      rw [i64 (by omega) (by omega)]
    rw [if_pos (by omega), i64 (x := hi8 rate - lo8 rate) (by omega) (by omega), i64 (x := hi8 rate - lo8 rate + 1) (by omega) (by omega), r4, obind_of]
    simp only
    rw [icdf_F, obind_of, r5, obind_of, glags_F, obind_of, hread, obind_of]
    simp only
    rw [i64 (x := lo8 rate + x) (by omega) (by omega)]
    simp only [beq_self_eq_true, Bool.and_self, br_true]
    rw [tell_F hq5 (by omega) (by omega), obind_of, rtell_F hq5 (by omega) (by omega) (by omega), obind_of]
    simp only [if_true]
    rw [hlast, hnear, rloud_F (by omega), obind_of, obind_of]
    simp only [if_true]
    rw [rgnearest_F hv (by omega), obind_of, obind_of]
    simp
  · have hread : Rc.greadltp.F 30000 rate q3.rng q3.val q3.last (fr b q3.m) 0 0 0 cc3 false b = some (0, 0, q3.rng, q3.val, q3.last, fr b q3.m, 0, 0, 0, cc3, false) := by
      unfold Rc.greadltp.F
      simp only [chkI_same, chkB_same, chkL_same, pair0, pair1, br_beq]
      rw [glags_F, obind_of]
      simp only
      rw [l0, if_pos rfl]
    rw [if_neg (by omega), glags_F, obind_of, hread, obind_of]
    simp only
    simp only [beq_self_eq_true, Bool.and_self, br_true]
    rw [tell_F hq3 (by omega) (by omega), obind_of, rtell_F hq3 (by omega) (by omega) (by omega), obind_of]
    simp only [if_true]
    rw [hlast, hnear, rloud_F (by omega), obind_of, obind_of]
    simp only [if_true]
    rw [rgnearest_F hv (by omega), obind_of, obind_of]
    simp
end
end Go.Pl
