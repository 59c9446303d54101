/-
  Chapter 4 in plain words: each writing, and what a reader finds of it.
  Conditions: none.
-/
import Derived.Test.YtlbdcahecabfkaaPlRen4
set_option linter.unusedSimpArgs false
set_option linter.unusedVariables false
namespace Go.Pl
open Go.Eng Go.Proofs
structure E.Low (e : E) : Prop where
  k : e.k ≤ 10000
  r : e.r ≤ 100000
theorem E.Low.lim {N : Nat} {e : E} (h : e.Low) (hN : 30000 ≤ N) : e.Lim N := ⟨by have := h.k; omega, by have := h.r; omega, by have := h.k; omega⟩
def E.new : E := ⟨0, 0, 2147483648, 0, 0⟩
theorem E.new_ok : E.new.Ok := ⟨⟨by decide, by decide, by decide, by decide, by decide, by decide⟩, by decide⟩
theorem E.new_low : E.new.Low := ⟨by decide, by decide⟩
theorem E.new_told : E.new.told = [] := rfl
theorem E.new_bits : E.new.bits = [] := rfl
theorem E.new_val : E.new.val = 0 := rfl
theorem E.new_count : E.new.count = 33 := rfl
theorem E.new_tell : E.new.tell = 1 := by decide +kernel
theorem enew_F {N : Nat} : Rc.enew.F N = some (E.new.val, E.new.rng, (E.new.r : Int), E.new.count, E.new.told, E.new.bits) := rfl
theorem E.new_rd {b : List Int} (hb : Bytes b) : E.new.rd b = Q.new b := by
  have h0 := nb_range hb 0
  have h1 := nb_range hb 1
  have h2 := nb_range hb 2
  have h3 := nb_range hb 3
  have e : Q.new b = (((Q.new0 b).step b).step b).step b := by
    unfold Q.new Q.on Q.norm
    rw [if_pos (show (Q.new0 b).rng ≤ 8388608 from by show (128 : Int) ≤ 8388608; decide)]
    unfold Q.norm
    rw [if_pos (show ((Q.new0 b).step b).rng ≤ 8388608 from by show (128 * 256 : Int) ≤ 8388608; decide)]
    unfold Q.norm
    rw [if_pos (show (((Q.new0 b).step b).step b).rng ≤ 8388608 from by show (128 * 256 * 256 : Int) ≤ 8388608; decide)]
    unfold Q.norm
    rw [if_neg (show ¬ ((((Q.new0 b).step b).step b).step b).rng ≤ 8388608 from by show ¬ (128 * 256 * 256 * 256 : Int) ≤ 8388608; decide)]
  rw [e]
  simp only [E.rd, E.new, Q.step, Q.new0, cp, Nat.zero_add]
  congr 1
  generalize nb b 0 = x0 at *
  generalize nb b 1 = x1 at *
  generalize nb b 2 = x2 at *
  generalize nb b 3 = x3 at *
  omega
theorem E.tk0_tell {e : E} (h : e.Ok) {fl fh ft : Int} (p : Place fl fh ft) : e.tell ≤ (e.tk fl fh ft).tell ∧ (e.tk fl fh ft).tell ≤ e.tell + 31 := by
  obtain ⟨k1, k2, k3, k4, k5, k6, k7⟩ := E.tk0_facts h p
  have hpre := E.tk0_pre h p
  have hr := E.bl_range h
  unfold E.tk
  rw [E.on_tell hpre.r0]
  have hs := E.tk0_same e fl fh ft
  have hle : (e.tk0 fl fh ft).rng ≤ e.rng := by unfold E.tk0; split <;> simp only <;> omega
  have h1 := bl_mono hle
  have h2 := bl_mono hpre.r0
  have e1 : bl 1 = 1 := by decide +kernel
  unfold E.tell E.count
  rw [hs.1, hs.2.2]
  omega
theorem E.fl_tell {e : E} (h : e.Ok) (v : Bool) {n : Nat} (n0 : 1 ≤ n) (n1 : n ≤ 15) : e.tell ≤ (e.fl v n).tell ∧ (e.fl v n).tell ≤ e.tell + 31 := by
  obtain ⟨k1, k2⟩ := E.f0_facts h n0 n1
  have hpre := E.f0_pre h v n0 n1
  have hr := E.bl_range h
  unfold E.fl
  rw [E.on_tell hpre.r0]
  have hs := E.f0_same e v n
  have hle : (e.f0 v n).rng ≤ e.rng := by unfold E.f0; split <;> simp only <;> omega
  have h1 := bl_mono hle
  have h2 := bl_mono hpre.r0
  have e1 : bl 1 = 1 := by decide +kernel
  unfold E.tell E.count
  rw [hs.1, hs.2.2]
  omega
theorem E.bt_tell (e : E) (v : Int) (n : Nat) : (e.bt v n).tell = e.tell + n := by
  simp only [E.tell, E.count, E.bt]
  omega
theorem E.un_tell {e : E} (h : e.Ok) {v ft : Int} (v0 : 0 ≤ v) (v1 : v < ft) (h1 : ft ≤ 4294967295) : e.tell ≤ (e.un v ft).tell ∧ (e.un v ft).tell ≤ e.tell + 55 := by
  unfold E.un
  split
  · omega
  · split
    · have := E.tk0_tell h (un_place v0 v1 (by omega)); omega
    · obtain ⟨b0, b1, _⟩ := ub_range (ft := ft) (by omega) h1
      have := E.tk0_tell h (ug_place v0 v1 (by omega) h1).1
      rw [E.bt_tell]
      omega
def E.la (e : E) (v fs decay : Int) : E := e.tk (lapP fs decay (max v (-32768))).2.1 (lapP fs decay (max v (-32768))).2.2 32768
def lapV (v fs decay : Int) : Int := (lapP fs decay (max v (-32768))).1
theorem lap_of {v fs decay : Int} (h0 : 256 ≤ fs) (h1 : fs ≤ 28000) (d0 : 0 ≤ decay) (d1 : decay ≤ 16000) (hv2 : v < 9223372036854775808) : Lap fs decay (max v (-32768)) (lapP fs decay (max v (-32768))) :=
  (eplace_F (N := 20000) h0 h1 d0 d1 (by omega) (by omega) (Nat.le_refl _)).2
section
variable {N : Nat}
theorem elaplace_F {e : E} (h : e.Ok) (hl : e.Lim N) (hN : 20000 ≤ N) (v fs decay : Int) (hv2 : v < 9223372036854775808) {raw : List Int} :
    Rc.elaplace.F N v fs decay e.val e.rng e.r e.count e.told raw =
      some (if 256 ≤ fs ∧ fs ≤ 28000 ∧ 0 ≤ decay ∧ decay ≤ 16000 then (lapV v fs decay, 0, (e.la v fs decay).val, (e.la v fs decay).rng, (e.r : Int), (e.la v fs decay).count, raw, (e.la v fs decay).told) else (0, 1, e.val, e.rng, (e.r : Int), e.count, raw, e.told)) := by
  unfold Rc.elaplace.F
  simp only [br_dec]
  by_cases c1 : fs < 256
  · rw [if_pos c1, if_neg (by omega)]
  by_cases c2 : fs > 28000
  · rw [if_neg c1, if_pos c2, if_neg (by omega)]
  by_cases c3 : decay < 0
  · rw [if_neg c1, if_neg c2, if_pos c3, if_neg (by omega)]
  by_cases c4 : decay > 16000
  · rw [if_neg c1, if_neg c2, if_neg c3, if_pos c4, if_neg (by omega)]
  have hc : 256 ≤ fs ∧ fs ≤ 28000 ∧ 0 ≤ decay ∧ decay ≤ 16000 := by omega
  have hm : (if (-32768 : Int) > v then -32768 else v) = max v (-32768) := by split <;> omega
  have hp := eplace_F (N := N) (v := max v (-32768)) (fs := fs) (decay := decay) (by omega) (by omega) (by omega) (by omega) (by omega) (by omega) hN
  obtain ⟨pl, _, _, _⟩ := hp.2.place hc.1 hc.2.1 hc.2.2.1 hc.2.2.2
  have pl0 := pl.a
  have pl1 := pl.b
  have pl2 := pl.c
  rw [if_neg c1, if_neg c2, if_neg c3, if_neg c4, if_pos hc, hm, hp.1, obind_of, u64 (x := (lapP fs decay (max v (-32768))).2.1) (by omega) (by omega), u64 (x := (lapP fs decay (max v (-32768))).2.2) (by omega) (by omega), etake_F h hl pl, obind_of]
  rfl
end
theorem la_place {v fs decay : Int} (h0 : 256 ≤ fs) (h1 : fs ≤ 28000) (d0 : 0 ≤ decay) (d1 : decay ≤ 16000) (hv2 : v < 9223372036854775808) : Place (lapP fs decay (max v (-32768))).2.1 (lapP fs decay (max v (-32768))).2.2 32768 :=
  ((lap_of h0 h1 d0 d1 hv2).place h0 h1 d0 d1).1
theorem symK_at {t : List Int} (g : GoodT t) {f : Int} {s : Nat} (hs : s < t.length) (h0 : symL t s ≤ f) (h1 : f < 256 - t.getD s 0) (hf : f < 256) : symK t f t.length 0 = s := by
  obtain ⟨k1, k2, k3⟩ := symK_spec g hf t.length 0 (by omega) (by omega) (fun j hj => by omega)
  rcases Nat.lt_trichotomy (symK t f t.length 0) s with h | h | h
  · have h2 : symL t s = 256 - t.getD (s - 1) 0 := by unfold symL; rw [if_neg (by omega)]
    have h3 := g.le (s - 1 - symK t f t.length 0) (symK t f t.length 0) (by omega)
    rw [show symK t f t.length 0 + (s - 1 - symK t f t.length 0) = s - 1 by omega] at h3
    omega
  · exact h
  · have := k3 s h; omega
section
variable {b : List Int} {e : E}
theorem E.sy_back (hb : Bytes b) (h : e.Ok) {t : List Int} (g : GoodT t) {s : Nat} (hs : s < t.length) (hf : (e.sy s t).Fit b) : e.Fit b ∧ (e.rd b).sk t = s ∧ (e.sy s t).rd b = (e.rd b).sy b t := by
  have p := sym_place g hs
  obtain ⟨h1, h2, h3⟩ := E.tk_rd hb h p hf.i
  have hk : (e.rd b).sk t = s := symK_at g hs h1 h2 (by have := g.range hs; omega)
  refine ⟨E.tk_fit hb h p hf, hk, ?_⟩
  unfold E.sy Q.sy
  rw [hk, h3]
theorem E.fl_back (hb : Bytes b) (h : e.Ok) {v : Bool} {n : Int} (n0 : 1 ≤ n) (n1 : n ≤ 15) (hf : (e.fl v n.toNat).Fit b) : e.Fit b ∧ (e.rd b).fv n = v ∧ (e.fl v n.toNat).rd b = (e.rd b).fl b n := by
  obtain ⟨k, rfl⟩ := Int.eq_ofNat_of_zero_le (show 0 ≤ n by omega)
  rw [Int.toNat_natCast] at hf ⊢
  exact ⟨E.fl_fit hb h (by omega) (by omega) hf, (E.fl_rd hb h (by omega) (by omega) hf.i).1, (E.fl_rd hb h (by omega) (by omega) hf.i).2⟩
theorem E.bt_back (hb : Bytes b) (h : e.Ok) {v : Int} {n : Nat} (hn : n ≤ 24) (v0 : 0 ≤ v) (v1 : v < 2 ^ n) (hf : (e.bt v n).Fit b) {w : W} (hw : w.At b e.r) : e.Fit b ∧ w.val b n = v ∧ (w.next b n).At b (e.bt v n).r ∧ (e.bt v n).rd b = e.rd b := by
  obtain ⟨h1, h2⟩ := E.bt_fit h v0 v1 hf
  obtain ⟨h3, h4⟩ := hw.next hb hn
  exact ⟨h1, by rw [h3, h2], h4, rfl⟩
theorem E.la_back (hb : Bytes b) (h : e.Ok) {v fs decay : Int} (h0 : 256 ≤ fs) (h1 : fs ≤ 28000) (d0 : 0 ≤ decay) (d1 : decay ≤ 16000) (hv2 : v < 9223372036854775808) (hf : (e.la v fs decay).Fit b) :
    e.Fit b ∧ (lapAt ((e.rd b).ch 32768) fs decay).v = lapV v fs decay ∧ (e.la v fs decay).rd b = (e.rd b).la b fs decay := by
  obtain ⟨p, pr, _, _⟩ := (lap_of h0 h1 d0 d1 hv2).place h0 h1 d0 d1
  obtain ⟨t1, t2, t3⟩ := E.tk_rd hb h p hf.i
  obtain ⟨r1, r2, r3⟩ := pr _ t1 t2
  refine ⟨E.tk_fit hb h p hf, r3, ?_⟩
  unfold E.la Q.la
  rw [r1, r2, t3]
theorem E.us_back (hb : Bytes b) (h : e.Ok) {v ft : Int} (v0 : 0 ≤ v) (v1 : v < ft) (f0 : 1 < ft) (f1 : ft ≤ 256) (hf : (e.un v ft).Fit b) : e.Fit b ∧ (e.rd b).ch ft = v ∧ (e.un v ft).rd b = (e.rd b).un b ft ∧ (e.un v ft).r = e.r := by
  have eu : e.un v ft = e.tk v (v + 1) ft := by unfold E.un; rw [if_neg (by omega), if_pos f1]
  rw [eu] at hf ⊢
  have p := un_place v0 v1 f1
  obtain ⟨t1, t2, t3⟩ := E.tk_rd hb h p hf.i
  have hc : (e.rd b).ch ft = v := by omega
  refine ⟨E.tk_fit hb h p hf, hc, ?_, (E.tk_same e _ _ _).1⟩
  unfold Q.un
  rw [if_pos f1, hc, t3]
theorem E.ug_back (hb : Bytes b) (h : e.Ok) {v ft : Int} (v0 : 0 ≤ v) (v1 : v < ft) (f0 : 256 < ft) (f1 : ft ≤ 4294967295) (hf : (e.un v ft).Fit b) {w : W} (hw : w.At b e.r) :
    e.Fit b ∧ uv b (e.rd b) w ft = v ∧ (e.un v ft).rd b = (e.rd b).un b ft ∧ (w.next b (ub ft)).At b (e.un v ft).r ∧ (e.un v ft).r = e.r + ub ft := by
  have eu : e.un v ft = (e.tk (v / 2 ^ ub ft) (v / 2 ^ ub ft + 1) (uf ft)).bt (v % 2 ^ ub ft) (ub ft) := by unfold E.un; rw [if_neg (by omega), if_neg (by omega)]
  rw [eu] at hf ⊢
  obtain ⟨p, q0, q1⟩ := ug_place v0 v1 f0 f1
  obtain ⟨b0, b1, _⟩ := ub_range f0 f1
  have hs := E.tk_same e (v / 2 ^ ub ft) (v / 2 ^ ub ft + 1) (uf ft)
  have hok := E.tk_ok h p
  obtain ⟨g1, g2, g3, g4⟩ := E.bt_back hb hok b1 (Int.emod_nonneg _ (by have := p2pos (ub ft); omega)) (Int.emod_lt_of_pos _ (p2pos _)) hf (w := w) (by rw [hs.1]; exact hw)
  obtain ⟨t1, t2, t3⟩ := E.tk_rd hb h p g1.i
  have hc : (e.rd b).ch (uf ft) = v / 2 ^ ub ft := by omega
  refine ⟨E.tk_fit hb h p g1, ?_, ?_, g3, by simp only [E.bt, hs.1]⟩
  · unfold uv
    rw [hc, g2, Int.mul_comm]
    exact Int.mul_ediv_add_emod v _
  · rw [g4, t3]
    unfold Q.un
    rw [if_neg (by omega), hc]
end
end Go.Pl
