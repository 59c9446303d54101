/-
  Chapter 3 in plain words: numbers that are small as a rule (rc's); the reference's flags, bits, numbers.
  Conditions: none.
-/
import Derived.Test.YtlbdcahecabfkaaPlG5
set_option linter.unusedSimpArgs false
set_option linter.unusedVariables false
namespace Go.Pl
open Go.Eng Go.Proofs
structure Lp where
  l : Int
  v : Int
  s : Int
def Lp.step (decay : Int) (p : Lp) : Lp := ⟨p.l + 2 * p.s, p.v + 1, (2 * p.s - 2) * decay / 32768 + 1⟩
def Lp.run (decay f : Int) : Nat → Lp → Lp
  | 0, p => p
  | n + 1, p => if 1 < p.s ∧ p.l + 2 * p.s ≤ f then Lp.run decay f n (p.step decay) else p
structure Lp.Ok (f : Int) (p : Lp) : Prop where
  l0 : 0 ≤ p.l
  l1 : p.l ≤ f
  s0 : 1 ≤ p.s
  s1 : p.s ≤ 20000
  v0 : 0 ≤ p.v
  v1 : p.v ≤ p.l + 1
theorem Lp.Ok.step {decay f : Int} (d0 : 0 ≤ decay) (d1 : decay ≤ 16000) {p : Lp} (h : p.Ok f) (hs : 1 < p.s) (hf : p.l + 2 * p.s ≤ f) : (p.step decay).Ok f ∧ 0 ≤ (2 * p.s - 2) * decay ∧ (2 * p.s - 2) * decay ≤ (2 * p.s - 2) * 16000 := by
  obtain ⟨h1, h2, h3, h4, h5, h6⟩ := h
  have k1 : 0 ≤ (2 * p.s - 2) * decay := Int.mul_nonneg (by omega) d0
  have k2 : (2 * p.s - 2) * decay ≤ (2 * p.s - 2) * 16000 := Int.mul_le_mul_of_nonneg_left d1 (by omega)
  refine ⟨⟨by simp only [Lp.step]; omega, by simp only [Lp.step]; omega, by simp only [Lp.step]; omega, by simp only [Lp.step]; omega, by simp only [Lp.step]; omega, by simp only [Lp.step]; omega⟩, k1, k2⟩
theorem Lp.run_ok {decay f : Int} (d0 : 0 ≤ decay) (d1 : decay ≤ 16000) : ∀ (n : Nat) (p : Lp), p.Ok f → f < p.l + 4 * n → (Lp.run decay f n p).Ok f ∧ ((Lp.run decay f n p).s ≤ 1 ∨ f < (Lp.run decay f n p).l + 2 * (Lp.run decay f n p).s)
  | 0, p, h, hn => by have := h.l1; omega
  | n + 1, p, h, hn => by
    simp only [Lp.run]
    split
    · rename_i hc
      exact Lp.run_ok d0 d1 n _ (h.step d0 d1 hc.1 hc.2).1 (by simp only [Lp.step]; omega)
    · rename_i hc
      exact ⟨h, by omega⟩
theorem rlap_loop {N : Nat} {decay f : Int} (d0 : 0 ≤ decay) (d1 : decay ≤ 16000) (hf : f < 32768) : ∀ (nn n : Nat) (p : Lp), p.Ok f → f < p.l + 4 * n → n < nn →
    Rc.rlaplace.loop9 N nn decay f p.l p.v p.s = some ((Lp.run decay f n p).l, (Lp.run decay f n p).v, (Lp.run decay f n p).s)
  | 0, n, p, _, _, h => by omega
  | nn + 1, n, p, h, hn, h0 => by
    obtain ⟨h1, h2, h3, h4, h5, h6⟩ := id h
    unfold Rc.rlaplace.loop9
    simp only [br_dec, chkI_same]
    cases n with
    | zero => omega
    | succ n =>
      simp only [Lp.run]
      by_cases hs : p.s > 1
      · rw [if_pos hs, i64 (x := 2 * p.s) (by omega) (by omega), i64 (x := p.l + 2 * p.s) (by omega) (by omega)]
        by_cases hc : p.l + 2 * p.s ≤ f
        · rw [if_pos hc, if_pos ⟨hs, hc⟩]
          obtain ⟨k0, k1, k2⟩ := h.step d0 d1 hs hc
          rw [i64 (x := 2 * p.s - 2) (by omega) (by omega), i64 (x := _ * decay) (by omega) (by omega), tdiv_ediv k1, i64 (x := _ / 32768) (by omega) (by omega), i64 (x := _ / 32768 + 1) (by omega) (by omega), i64 (x := p.v + 1) (by omega) (by omega)]
          exact rlap_loop d0 d1 hf nn n (p.step decay) k0 (by simp only [Lp.step]; omega) (by omega)
        · rw [if_neg (by omega), if_neg (by omega)]
      · rw [if_neg hs, if_neg (by omega)]
def Lp.start (fs decay : Int) : Lp := ⟨fs, 1, (32736 - fs) * (16384 - decay) / 32768 + 1⟩
def lapEnd (f : Int) (p : Lp) : Lp :=
  let p2 : Lp := if p.s ≤ 1 then ⟨p.l + 2 * ((f - p.l) / 2), p.v + (f - p.l) / 2, p.s⟩ else p
  if f < p2.l + p2.s then ⟨p2.l, -p2.v, p2.s⟩ else ⟨p2.l + p2.s, p2.v, p2.s⟩
def lapAt (f fs decay : Int) : Lp := if f ≥ fs then lapEnd f (Lp.run decay f 8192 (Lp.start fs decay)) else ⟨0, 0, fs⟩
theorem start_ok {f fs decay : Int} (h0 : 256 ≤ fs) (h1 : fs ≤ 28000) (d0 : 0 ≤ decay) (d1 : decay ≤ 16000) (hf : fs ≤ f) : (Lp.start fs decay).Ok f ∧ 0 ≤ (32736 - fs) * (16384 - decay) ∧ (32736 - fs) * (16384 - decay) ≤ (32736 - fs) * 16384 := by
  have k1 : 0 ≤ (32736 - fs) * (16384 - decay) := Int.mul_nonneg (by omega) (by omega)
  have k2 : (32736 - fs) * (16384 - decay) ≤ (32736 - fs) * 16384 := Int.mul_le_mul_of_nonneg_left (by omega) (by omega)
  refine ⟨⟨by simp only [Lp.start]; omega, hf, by simp only [Lp.start]; omega, by simp only [Lp.start]; omega, by simp only [Lp.start]; omega, by simp only [Lp.start]; omega⟩, k1, k2⟩
theorem lapEnd_ok {f : Int} (hf : f < 32768) {p : Lp} (h : p.Ok f) (hs : p.s ≤ 1 ∨ f < p.l + 2 * p.s) : 0 ≤ (lapEnd f p).l ∧ (lapEnd f p).l ≤ f ∧ f < (lapEnd f p).l + (lapEnd f p).s ∧ (lapEnd f p).s ≤ 20000 ∧ 1 ≤ (lapEnd f p).s ∧ -40000 ≤ (lapEnd f p).v ∧ (lapEnd f p).v ≤ 40000 := by
  obtain ⟨h1, h2, h3, h4, h5, h6⟩ := h
  unfold lapEnd
  simp only
  by_cases h7 : p.s ≤ 1
  · simp only [if_pos h7]
    split <;> simp only <;> omega
  · simp only [if_neg h7]
    split <;> simp only <;> omega
theorem lapAt_ok {f fs decay : Int} (h0 : 256 ≤ fs) (h1 : fs ≤ 28000) (d0 : 0 ≤ decay) (d1 : decay ≤ 16000) (hf0 : 0 ≤ f) (hf : f < 32768) :
    0 ≤ (lapAt f fs decay).l ∧ (lapAt f fs decay).l ≤ f ∧ f < (lapAt f fs decay).l + (lapAt f fs decay).s ∧ (lapAt f fs decay).s ≤ 28000 ∧ 1 ≤ (lapAt f fs decay).s ∧ -40000 ≤ (lapAt f fs decay).v ∧ (lapAt f fs decay).v ≤ 40000 := by
  unfold lapAt
  split
  · rename_i hc
    obtain ⟨s0, _, _⟩ := start_ok h0 h1 d0 d1 hc
    obtain ⟨r0, r1⟩ := Lp.run_ok d0 d1 8192 _ s0 (by simp only [Lp.start]; omega)
    have := lapEnd_ok hf r0 r1
    omega
  · simp only
    omega
end Go.Pl
