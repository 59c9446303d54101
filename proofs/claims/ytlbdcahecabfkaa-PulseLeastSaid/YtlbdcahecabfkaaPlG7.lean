/-
  Chapter 3 in plain words: Laplace's numbers in the code, and the reference's flags, bits, numbers.
  Conditions: none.
-/
import Derived.Test.YtlbdcahecabfkaaPlG6
set_option linter.unusedSimpArgs false
set_option linter.unusedVariables false
namespace Go.Pl
open Go.Eng Go.Proofs
def lapH (p : Lp) : Int := min (p.l + p.s) 32768
def Q.la (b : List Int) (q : Q) (fs decay : Int) : Q := q.tk b (lapAt (q.ch 32768) fs decay).l (lapH (lapAt (q.ch 32768) fs decay)) 32768
theorem lap_takes {q : Q} (h : q.Ok) {fs decay : Int} (h0 : 256 ≤ fs) (h1 : fs ≤ 28000) (d0 : 0 ≤ decay) (d1 : decay ≤ 16000) :
    Takes q (lapAt (q.ch 32768) fs decay).l (lapH (lapAt (q.ch 32768) fs decay)) 32768 := by
  obtain ⟨c0, c1⟩ := Q.ch_range h (ft := 32768) (by omega) (by omega)
  obtain ⟨k1, k2, k3, k4, k5, k6⟩ := lapAt_ok (f := q.ch 32768) h0 h1 d0 d1 c0 c1
  unfold lapH
  exact ⟨by omega, by omega, k1, k2, by omega, by omega⟩
theorem Q.la_ok {b : List Int} (hb : Bytes b) {q : Q} (h : q.Ok) {fs decay : Int} (h0 : 256 ≤ fs) (h1 : fs ≤ 28000) (d0 : 0 ≤ decay) (d1 : decay ≤ 16000) : (q.la b fs decay).Ok := Q.tk_ok hb h (lap_takes h h0 h1 d0 d1)
theorem Q.la_m (b : List Int) (q : Q) (fs decay : Int) : q.m ≤ (q.la b fs decay).m ∧ (q.la b fs decay).m ≤ q.m + 4 := Q.tk_m b q _ _ _
section
variable {N : Nat} {back window waiting count : Int} {bad : Bool} {b : List Int}
end
section
variable {N : Nat} {back wait waiting count eq : Int} {bad : Bool} {b : List Int}
theorem rlaplace_out {rng val last front fs decay : Int} (h : fs < 256 ∨ fs > 28000 ∨ decay < 0 ∨ decay > 16000) :
    Rc.rlaplace.F N fs decay rng val last front back wait waiting count eq bad b = some (0, rng, val, last, front, count, eq) := by
  unfold Rc.rlaplace.F
  simp only [br_dec, chkI_same, chkB_same, chkL_same]
  by_cases h1 : fs < 256
  · rw [if_pos h1]
  rw [if_neg h1]
  by_cases h2 : fs > 28000
  · rw [if_pos h2]
  rw [if_neg h2]
  by_cases h3 : decay < 0
  · rw [if_pos h3]
  rw [if_neg h3, if_pos (by omega)]
theorem rlaplace_F (hb : Bytes b) (hl : b.length < 1099511627776) {q : Q} (h : q.Ok) {fs decay : Int} (h0 : 256 ≤ fs) (h1 : fs ≤ 28000) (d0 : 0 ≤ decay) (d1 : decay ≤ 16000) (hc0 : 0 ≤ count) (hc1 : count < 1099511627776) (hN : 10000 ≤ N) :
    ∃ eq', Rc.rlaplace.F N fs decay q.rng q.val q.last (fr b q.m) back wait waiting count eq bad b =
      some ((lapAt (q.ch 32768) fs decay).v, (q.la b fs decay).rng, (q.la b fs decay).val, (q.la b fs decay).last, fr b (q.la b fs decay).m, ct count q (q.la b fs decay), eq') := by
  refine ⟨q.rng / 32768, ?_⟩
  obtain ⟨c0, c1⟩ := Q.ch_range h (ft := 32768) (by omega) (by omega)
  have ht := rtake_F (N := N) (back := back) (wait := wait) (waiting := waiting) (bad := bad) hb hl h (lap_takes h h0 h1 d0 d1) hc0 hc1 (by omega)
  obtain ⟨a1, a2, a3, a4, a5, a6, a7⟩ := lapAt_ok (f := q.ch 32768) h0 h1 d0 d1 c0 c1
  have hla : q.tk b (lapAt (q.ch 32768) fs decay).l (lapH (lapAt (q.ch 32768) fs decay)) 32768 = q.la b fs decay := rfl
  rw [hla] at ht
  generalize q.la b fs decay = Z at ht ⊢
  unfold Rc.rlaplace.F
  simp only [br_dec, chkI_same, chkB_same, chkL_same]
  rw [if_neg (by omega), if_neg (by omega), if_neg (by omega), if_neg (by omega), rchoose_F h (by omega) (by omega), obind_of]
  simp only
  rw [i64 (x := q.ch 32768) (by omega) (by omega), u64 (x := 32768) (by omega) (by omega)]
  generalize hA : lapAt (q.ch 32768) fs decay = A at ht a1 a2 a3 a4 a5 a6 a7 ⊢
  unfold lapAt at hA
  unfold lapH at ht
  by_cases hf : q.ch 32768 ≥ fs
  · rw [if_pos hf] at hA ⊢
    obtain ⟨s0, s1, s2⟩ := start_ok (f := q.ch 32768) h0 h1 d0 d1 hf
    obtain ⟨r0, r1⟩ := Lp.run_ok d0 d1 8192 _ s0 (by simp only [Lp.start]; omega)
    have hloop := rlap_loop (N := N) d0 d1 c1 N 8192 (Lp.start fs decay) s0 (by simp only [Lp.start]; omega) (by omega)
    have e0 : IntKind.i64.wrap (IntKind.i64.wrap ((IntKind.i64.wrap (IntKind.i64.wrap (32736 - fs) * IntKind.i64.wrap (16384 - decay))).tdiv 32768) + 1) = (Lp.start fs decay).s := by
      rw [i64 (x := 32736 - fs) (by omega) (by omega), i64 (x := 16384 - decay) (by omega) (by omega), i64 (x := (32736 - fs) * (16384 - decay)) (by omega) (by omega), tdiv_ediv s1, i64 (x := _ / 32768) (by omega) (by omega), i64 (by omega) (by omega)]
      rfl
    rw [e0]
    have e1 : Rc.rlaplace.loop9 N N decay (q.ch 32768) fs 1 (Lp.start fs decay).s = Rc.rlaplace.loop9 N N decay (q.ch 32768) (Lp.start fs decay).l (Lp.start fs decay).v (Lp.start fs decay).s := rfl
    rw [e1, hloop, obind_of]
    simp only
    generalize Lp.run decay (q.ch 32768) 8192 (Lp.start fs decay) = p at hA r0 r1 ⊢
    obtain ⟨p1, p2, p3, p4, p5, p6⟩ := r0
    unfold lapEnd at hA
    simp only at hA
    by_cases hs : p.s ≤ 1
    · simp only [if_pos hs] at hA
      rw [if_pos hs, i64 (x := q.ch 32768 - p.l) (by omega) (by omega), tdiv_ediv (by omega), i64 (x := (q.ch 32768 - p.l) / 2) (by omega) (by omega), i64 (x := 2 * _) (by omega) (by omega), i64 (x := p.l + _) (by omega) (by omega), i64 (x := p.v + _) (by omega) (by omega),
        i64 (x := p.l + _ + p.s) (by omega) (by omega)]
      by_cases hg : q.ch 32768 < p.l + 2 * ((q.ch 32768 - p.l) / 2) + p.s
      · rw [if_pos hg] at hA ⊢
        subst hA
        simp only at ht ⊢
        rw [if_neg (by omega), u64 (x := p.l + 2 * ((q.ch 32768 - p.l) / 2)) (by omega) (by omega), u64 (x := p.l + 2 * ((q.ch 32768 - p.l) / 2) + p.s) (by omega) (by omega)]
        rw [show min (p.l + 2 * ((q.ch 32768 - p.l) / 2) + p.s) 32768 = p.l + 2 * ((q.ch 32768 - p.l) / 2) + p.s by omega] at ht
        rw [ht, obind_of, i64 (by omega) (by omega)]
        simp
      · rw [if_neg hg] at hA ⊢
        subst hA
        simp only at ht ⊢
        rw [i64 (x := p.l + _ + p.s + p.s) (by omega) (by omega), u64 (x := p.l + 2 * ((q.ch 32768 - p.l) / 2) + p.s) (by omega) (by omega)]
        by_cases hh : p.l + 2 * ((q.ch 32768 - p.l) / 2) + p.s + p.s > 32768
        · rw [if_pos hh]
          rw [show min (p.l + 2 * ((q.ch 32768 - p.l) / 2) + p.s + p.s) 32768 = 32768 by omega] at ht
          rw [ht, obind_of]
        · rw [if_neg hh, u64 (x := _ + p.s + p.s) (by omega) (by omega)]
          rw [show min (p.l + 2 * ((q.ch 32768 - p.l) / 2) + p.s + p.s) 32768 = p.l + 2 * ((q.ch 32768 - p.l) / 2) + p.s + p.s by omega] at ht
          rw [ht, obind_of]
    · simp only [if_neg hs] at hA
      rw [if_neg hs, i64 (x := p.l + p.s) (by omega) (by omega)]
      by_cases hg : q.ch 32768 < p.l + p.s
      · rw [if_pos hg] at hA ⊢
        subst hA
        simp only at ht ⊢
        rw [u64 (x := p.l) (by omega) (by omega)]
        by_cases hh : p.l + p.s > 32768
        · rw [if_pos hh]
          rw [show min (p.l + p.s) 32768 = 32768 by omega] at ht
          rw [ht, obind_of, i64 (by omega) (by omega)]
          simp
        · rw [if_neg hh, u64 (x := p.l + p.s) (by omega) (by omega)]
          rw [show min (p.l + p.s) 32768 = p.l + p.s by omega] at ht
          rw [ht, obind_of, i64 (by omega) (by omega)]
          simp
      · rw [if_neg hg] at hA ⊢
        subst hA
        simp only at ht ⊢
        rw [i64 (x := p.l + p.s + p.s) (by omega) (by omega), u64 (x := p.l + p.s) (by omega) (by omega)]
        by_cases hh : p.l + p.s + p.s > 32768
        · rw [if_pos hh]
          rw [show min (p.l + p.s + p.s) 32768 = 32768 by omega] at ht
          rw [ht, obind_of]
        · rw [if_neg hh, u64 (x := p.l + p.s + p.s) (by omega) (by omega)]
          rw [show min (p.l + p.s + p.s) 32768 = p.l + p.s + p.s by omega] at ht
          rw [ht, obind_of]
  · rw [if_neg hf] at hA ⊢
    subst hA
    simp only at ht ⊢
    rw [show min (0 + fs) 32768 = 0 + fs by omega] at ht
    rw [i64 (x := 0 + fs) (by omega) (by omega), if_neg (by omega), u64 (x := 0) (by omega) (by omega), u64 (x := 0 + fs) (by omega) (by omega), ht, obind_of]
theorem rflag_F (hb : Bytes b) (hl : b.length < 1099511627776) {q : Q} (h : q.Ok) (n : Int) (hc0 : 0 ≤ count) (hc1 : count < 1099511627776) (hN : 300 ≤ N) :
    Rc.rflag.F N n q.rng q.val q.last (fr b q.m) back wait waiting count eq bad b =
      some (if 1 ≤ n ∧ n ≤ 15 then ((q.fl b n).rng, (q.fl b n).val, (q.fl b n).last, fr b (q.fl b n).m, ct count q (q.fl b n), q.fv n) else (q.rng, q.val, q.last, fr b q.m, count, false)) := by
  unfold Rc.rflag.F
  simp only [br_dec, chkI_same, chkB_same, chkL_same]
  by_cases n0 : n < 1
  · rw [if_pos n0, if_neg (by omega)]
  rw [if_neg n0]
  by_cases n1 : n > 15
  · rw [if_pos n1, if_neg (by omega)]
  rw [if_neg n1, if_pos (show 1 ≤ n ∧ n ≤ 15 by omega), u64 (x := n) (by omega) (by omega), chk_pos (by omega), bits_u64, show min n.toNat 64 = n.toNat by omega, fdiv_ediv (by have := p2pos n.toNat; omega)]
  have hp := q.f0_pre h (n := n) (by omega) (by omega)
  obtain ⟨k1, k2⟩ := q.fs_range h (n := n) (by omega) (by omega)
  have hn := ron_F (N := N) (back := back) (wait := wait) (waiting := waiting) (count := count) (eq := eq) (bad := bad) hb hl hp hc0 hc1 (by omega)
  have hfs : q.rng / 2 ^ n.toNat = q.fs n := rfl
  rw [hfs]
  obtain ⟨h1, h2, h3, h4, h5, h6⟩ := h
  have hm := q.f0_m n
  by_cases hv : q.val < q.fs n
  · rw [if_pos hv]
    have e : q.f0 n = ⟨q.fs n, q.val, q.last, q.m⟩ := by unfold Q.f0; rw [if_pos hv]
    rw [e] at hn
    simp only at hn
    rw [hn, obind_of]
    simp only [Q.fl, e, ct, Q.fv]
  · rw [if_neg hv, u64 (x := q.rng - _) (by omega) (by omega), u64 (x := q.val - _) (by omega) (by omega)]
    have e : q.f0 n = ⟨q.rng - q.fs n, q.val - q.fs n, q.last, q.m⟩ := by unfold Q.f0; rw [if_neg hv]
    rw [e] at hn
    simp only at hn
    rw [hn, obind_of]
    simp only [Q.fl, e, ct, Q.fv]
theorem rbits_loop {rng val last front : Int} (hb : Bytes b) (hl : b.length < 1099511627776) {n : Nat} (hn : n ≤ 24) : ∀ (nn f : Nat) (w : W), w.Ok → n ≤ w.wai + 8 * f → f < nn →
    Rc.rbits.loop3 N nn (n : Int) rng val last front count eq bad b (fr b w.k) w.win (w.wai : Int) = some (fr b (W.fill b n f w).k, (W.fill b n f w).win, ((W.fill b n f w).wai : Int))
  | 0, f, w, _, _, h => by omega
  | nn + 1, f, w, h, hf, h0 => by
    unfold Rc.rbits.loop3
    simp only [br_dec, chkI_same, chkB_same, chkL_same]
    by_cases hw : w.wai < n
    · rw [if_pos (by omega)]
      obtain ⟨x0, x1⟩ := eb_range hb w.k
      cases f with
      | zero => omega
      | succ f =>
        have hc := h.c
        have ih := rbits_loop (rng := rng) (val := val) (last := last) (front := front) hb hl hn nn f (w.step b) (h.step hb (by omega)) (by simp only [W.step]; omega) (by omega)
        simp only [W.fill, if_pos hw]
        by_cases hin : w.k < b.length
        · have ef : fr b w.k = (w.k : Int) := by unfold fr; omega
          have ef2 : fr b (w.k + 1) = (w.k : Int) + 1 := by unfold fr; omega
          have ex : b.getD (b.length - 1 - w.k) 0 = eb b w.k := by unfold eb; rw [if_pos hin]
          rw [ef, if_pos (by omega), i64 (x := (w.k : Int) + 1) (by omega) (by omega), i64 (x := (b.length : Int) - _) (by omega) (by omega), chk_pos (by omega), u64 (x := (w.wai : Int)) (by omega) (by omega), chk_pos (by omega),
            show ((b.length : Int) - ((w.k : Int) + 1)).toNat = b.length - 1 - w.k by omega, ex, u64 (x := eb b w.k) (by omega) (by omega), Int.toNat_natCast, or_win h.a h.b (by omega) x0 x1, i64 (x := (w.wai : Int) + 8) (by omega) (by omega)]
          simp only [W.step] at ih ⊢
          rw [ef2] at ih
          exact ih
        · have ef : fr b w.k = (b.length : Int) := by unfold fr; omega
          have ef2 : fr b (w.k + 1) = (b.length : Int) := by unfold fr; omega
          have ex : eb b w.k = 0 := by unfold eb; rw [if_neg hin]
          rw [ef, if_neg (by omega), u64 (x := (w.wai : Int)) (by omega) (by omega), chk_pos (by omega), Int.toNat_natCast, or_win h.a h.b (by omega) (by omega) (by omega), i64 (x := (w.wai : Int) + 8) (by omega) (by omega)]
          simp only [W.step] at ih ⊢
          rw [ef2, ex] at ih
          rw [ex]
          exact ih
    · rw [if_neg (by omega)]
      have : W.fill b n f w = w := by cases f with
        | zero => rfl
        | succ f => simp only [W.fill, if_neg hw]
      rw [this]
theorem rbits_F {rng val last front : Int} (hb : Bytes b) (hl : b.length < 1099511627776) {w : W} (h : w.Ok) (n : Int) (hc0 : 0 ≤ count) (hc1 : count < 1099511627776) (hN : 300 ≤ N) :
    Rc.rbits.F N n rng val last front (fr b w.k) w.win (w.wai : Int) count eq bad b =
      some (if 0 ≤ n ∧ n ≤ 24 then (w.val b n.toNat, fr b (w.next b n.toNat).k, (w.next b n.toNat).win, ((w.next b n.toNat).wai : Int), count + n) else (0, fr b w.k, w.win, (w.wai : Int), count)) := by
  unfold Rc.rbits.F
  simp only [br_dec, chkI_same, chkB_same, chkL_same]
  by_cases n0 : n < 0
  · rw [if_pos n0, if_neg (by omega)]
  rw [if_neg n0]
  by_cases n1 : n > 24
  · rw [if_pos n1, if_neg (by omega)]
  rw [if_neg n1, if_pos (show 0 ≤ n ∧ n ≤ 24 by omega)]
  obtain ⟨k, rfl⟩ : ∃ k : Nat, n = k := ⟨n.toNat, by omega⟩
  have hk : k ≤ 24 := by omega
  rw [rbits_loop hb hl hk N 4 w h (by omega) (by omega), obind_of]
  obtain ⟨h1, h2, h3⟩ := W.fill_ok hb hk 4 w h
  have h4 := W.fill_n (b := b) (n := k) 4 w (by omega)
  have h5 : (2 : Int) ^ (W.fill b k 4 w).wai ≤ 2147483648 := p2le (b := 31) h3
  rw [u64 (x := (k : Int)) (by omega) (by omega), chk_pos (by omega), chk_pos (by omega)]
  simp only [Int.toNat_natCast]
  rw [mask_val h1 (by omega) hk, i64 (x := count + k) (by omega) (by omega), i64 (by omega) (by omega), bits_u64, show min k 64 = k by omega, fdiv_ediv (by have := p2pos k; omega)]
  simp only [W.val, W.next, W.at]
  congr 5
  omega
theorem ruint_out {rng val last front : Int} {ft : Int} (h : ft ≤ 1 ∨ ft > 4294967295) : Rc.ruint.F N ft rng val last front back wait waiting count eq bad b = some (0, rng, val, last, front, back, wait, waiting, count, eq, bad) := by
  unfold Rc.ruint.F
  simp only [br_dec, chkL_same, br_beq]
  by_cases h0 : ft < 1
  · rw [if_pos h0]
  rw [if_neg h0]
  by_cases h1 : ft > 4294967295
  · rw [if_pos h1]
  rw [if_neg h1, if_pos (by omega)]
theorem ruint_small (hb : Bytes b) (hl : b.length < 1099511627776) {q : Q} (h : q.Ok) {ft : Int} (h0 : 1 < ft) (h1 : ft ≤ 256) (hc0 : 0 ≤ count) (hc1 : count < 1099511627776) (hN : 300 ≤ N) :
    ∃ eq', Rc.ruint.F N ft q.rng q.val q.last (fr b q.m) back wait waiting count eq bad b =
      some (q.ch ft, (q.un b ft).rng, (q.un b ft).val, (q.un b ft).last, fr b (q.un b ft).m, back, wait, waiting, ct count q (q.un b ft), eq', bad) := by
  refine ⟨q.rng / ft, ?_⟩
  unfold Rc.ruint.F
  simp only [br_dec, chkL_same, br_beq]
  obtain ⟨c0, c1⟩ := Q.ch_range h (ft := ft) (by omega) (by omega)
  rw [if_neg (by omega), if_neg (by omega), if_neg (by omega), if_pos h1, u64 (x := ft) (by omega) (by omega), rchoose_F h (by omega) (by omega), obind_of]
  simp only
  rw [u64 (x := q.ch ft + 1) (by omega) (by omega), rtake_F hb hl h (ch_takes h (by omega) (by omega)) hc0 hc1 (by omega), obind_of, i64 (x := q.ch ft) (by omega) (by omega)]
  simp only [Q.un, if_pos h1]
theorem ruint_great (hb : Bytes b) (hl : b.length < 1099511627776) {q : Q} (h : q.Ok) {w : W} (hw : w.Ok) {ft : Int} (h0 : 256 < ft) (h1 : ft ≤ 4294967295) (hc0 : 0 ≤ count) (hc1 : count < 1099511620000) (hN : 300 ≤ N) :
    ∃ eq', Rc.ruint.F N ft q.rng q.val q.last (fr b q.m) (fr b w.k) w.win (w.wai : Int) count eq bad b =
      some (if uv b q w ft ≥ ft then ft - 1 else uv b q w ft, (q.un b ft).rng, (q.un b ft).val, (q.un b ft).last, fr b (q.un b ft).m, fr b (w.next b (ub ft)).k, (w.next b (ub ft)).win, ((w.next b (ub ft)).wai : Int),
        ct count q (q.un b ft) + ub ft, eq', bad || decide (uv b q w ft ≥ ft)) := by
  refine ⟨q.rng / uf ft, ?_⟩
  unfold Rc.ruint.F
  simp only [br_dec, chkL_same, br_beq]
  obtain ⟨b0, b1, b2, u0, u1⟩ := ub_range h0 h1
  obtain ⟨c0, c1⟩ := Q.ch_range h u0 (by omega)
  obtain ⟨v0, v1, v2, v3⟩ := uv_range (b := b) h w h0 h1
  obtain ⟨wv0, wv1⟩ := W.val_range (b := b) w (ub ft)
  have eun : q.un b ft = q.tk b (q.ch (uf ft)) (q.ch (uf ft) + 1) (uf ft) := by unfold Q.un; rw [if_neg (by omega)]
  have hm := Q.un_m b q ft
  have hcr := ct_range (b := b) hm count
  rw [if_neg (by omega), if_neg (by omega), if_neg (by omega), if_neg (by omega), i64 (x := ft - 1) (by omega) (by omega), rlen_F (by omega) hN, obind_of, b2, i64 (x := (ub ft : Int) + 8 - 8) (by omega) (by omega),
    show (ub ft : Int) + 8 - 8 = ub ft by omega, u64 (x := (ub ft : Int)) (by omega) (by omega), chk_pos (by omega), Int.toNat_natCast, bits_i64, show min (ub ft) 64 = ub ft by omega, fdiv_ediv (by have := p2pos (ub ft); omega)]
  have euf : (ft - 1) / 2 ^ ub ft + 1 = uf ft := rfl
  rw [euf, i64 (x := uf ft) (by omega) (by omega), u64 (x := uf ft) (by omega) (by omega), rchoose_F h u0 (by omega), obind_of]
  simp only
  rw [u64 (x := q.ch (uf ft) + 1) (by omega) (by omega), rtake_F hb hl h (ch_takes h u0 (by omega)) hc0 (by omega) (by omega), obind_of, ← eun]
  simp only
  rw [chk_pos (by omega), rbits_F hb hl hw (ub ft) (by omega) (by omega) hN, if_pos (by omega), obind_of]
  simp only [Int.toNat_natCast]
  rw [i64 (x := q.ch (uf ft)) (by omega) (by omega), i64 (x := q.ch (uf ft) * 2 ^ ub ft) (by omega) (by omega), or_add c0 (by show q.ch (uf ft) * 2 ^ ub ft < 18446744073709551616; omega) wv0 wv1 (by omega),
    show q.ch (uf ft) * 2 ^ ub ft + w.val b (ub ft) = uv b q w ft from rfl, i64 (x := uv b q w ft) (by omega) (by omega)]
  by_cases hv : uv b q w ft ≥ ft
  · rw [if_pos hv, if_pos hv]
    simp [hv]
  · rw [if_neg hv, if_neg hv]
    simp [hv]
end
end Go.Pl
