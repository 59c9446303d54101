/-
  Layer 9: how pulses lie in a block, read by both.
  Conditions: none.
-/
import Derived.Test.YtlbdcahecabfkaaPlRen5
import Derived.Test.YtlbdcahecabfkaaPlKnown9
set_option linter.unusedSimpArgs false
set_option linter.unusedVariables false
namespace Go.Pl
open Go.Eng Go.Proofs
theorem ticdf_F {N : Nat} (n : Int) : Rc.ticdf.F N n = some (icdfT n) := by
  unfold Rc.ticdf.F icdfT
  simp only [br_beq]
  repeat' split
  all_goals rfl
theorem len5 : (icdfT 5).length = 17 := rfl
theorem g5 : GoodT (icdfT 5) := icdf_good (by omega) (by omega)
def tot : List Int → Int
  | [] => 0
  | x :: r => x + tot r
theorem tot_app (a b : List Int) : tot (a ++ b) = tot a + tot b := by
  induction a with
  | nil => simp [tot]
  | cons x a ih => simp only [List.cons_append, tot, ih]; omega
theorem ct_m {b : List Int} {C : Int} {q q' : Q} (h : q.m ≤ q'.m) : ct (C + 8 * (q.m : Int)) q q' = C + 8 * (q'.m : Int) := by
  unfold ct
  omega
def rdv (b : List Int) (q : Q) (ft : Int) : Int × Q := if ft ≤ 1 then (0, q) else (q.ch ft, q.un b ft)
theorem rdv_facts {b : List Int} (hb : Bytes b) {q : Q} (h : q.Ok) {ft : Int} (f0 : 1 ≤ ft) (f1 : ft ≤ 256) : 0 ≤ (rdv b q ft).1 ∧ (rdv b q ft).1 < ft ∧ (rdv b q ft).2.Ok ∧ q.m ≤ (rdv b q ft).2.m ∧ (rdv b q ft).2.m ≤ q.m + 4 := by
  unfold rdv
  split
  · exact ⟨by simp only; omega, by simp only; omega, h, Nat.le_refl _, by simp only; omega⟩
  · have := Q.ch_range h (ft := ft) (by omega) (by omega)
    have hm := Q.un_m b q ft
    exact ⟨this.1, this.2, Q.un_ok hb h (by omega) (by omega), hm.1, hm.2⟩
section
variable {N : Nat} {b : List Int}
theorem uint_rdv {back window waiting C : Int} {bad : Bool} (hb : Bytes b) (hl : b.length < 1099511627776) {q : Q} (h : q.Ok) {ft : Int} (f1 : ft ≤ 256) (c0 : 0 ≤ C) (c1 : C + 8 * (q.m : Int) < 1099511627776) (hN : 300 ≤ N) :
    Rc.uint.F N ft q.rng q.val q.last (fr b q.m) back window waiting (C + 8 * (q.m : Int)) bad b =
      some ((rdv b q ft).1, (rdv b q ft).2.rng, (rdv b q ft).2.val, (rdv b q ft).2.last, fr b (rdv b q ft).2.m, back, window, waiting, C + 8 * ((rdv b q ft).2.m : Int), bad) := by
  unfold rdv
  split
  · rw [uint_out (Or.inl (by assumption))]
  · rw [uint_small hb hl h (by omega) f1 (by omega) c1 hN, ct_m (b := b) (Q.un_m b q ft).1]
theorem ruint_rdv {back wait waiting C eq : Int} {bad : Bool} (hb : Bytes b) (hl : b.length < 1099511627776) {q : Q} (h : q.Ok) {ft : Int} (f1 : ft ≤ 256) (c0 : 0 ≤ C) (c1 : C + 8 * (q.m : Int) < 1099511627776) (hN : 300 ≤ N) :
    ∃ eq', Rc.ruint.F N ft q.rng q.val q.last (fr b q.m) back wait waiting (C + 8 * (q.m : Int)) eq bad b =
      some ((rdv b q ft).1, (rdv b q ft).2.rng, (rdv b q ft).2.val, (rdv b q ft).2.last, fr b (rdv b q ft).2.m, back, wait, waiting, C + 8 * ((rdv b q ft).2.m : Int), eq', bad) := by
  unfold rdv
  split
  · exact ⟨eq, ruint_out (Or.inl (by assumption))⟩
  · obtain ⟨e, r⟩ := ruint_small (N := N) (back := back) (wait := wait) (waiting := waiting) (count := C + 8 * (q.m : Int)) (eq := eq) (bad := bad) hb hl h (ft := ft) (by omega) f1 (by omega) c1 hN
    exact ⟨e, by rw [r, ct_m (b := b) (Q.un_m b q ft).1]⟩
end
def shq (b : List Int) : Nat → Int → Q → Q × List Int
  | 0, k, q => (q, [k])
  | d + 1, k, q =>
    ((shq b d (k - (rdv b q (k + 1)).1) (shq b d (rdv b q (k + 1)).1 (rdv b q (k + 1)).2).1).1,
      (shq b d (rdv b q (k + 1)).1 (rdv b q (k + 1)).2).2 ++ (shq b d (k - (rdv b q (k + 1)).1) (shq b d (rdv b q (k + 1)).1 (rdv b q (k + 1)).2).1).2)
theorem shq_facts {b : List Int} (hb : Bytes b) : ∀ (d : Nat) (k : Int) (q : Q), q.Ok → 0 ≤ k → k ≤ 16 →
    (shq b d k q).1.Ok ∧ q.m ≤ (shq b d k q).1.m ∧ (shq b d k q).1.m + 4 ≤ q.m + 4 * 2 ^ d ∧ (shq b d k q).2.length = 2 ^ d ∧ (∀ x ∈ (shq b d k q).2, 0 ≤ x ∧ x ≤ 16) ∧ tot (shq b d k q).2 = k
  | 0, k, q, h, k0, k1 => ⟨h, Nat.le_refl _, by simp [shq], rfl, fun x hx => by simp [shq] at hx; omega, by simp [shq, tot]⟩
  | d + 1, k, q, h, k0, k1 => by
    obtain ⟨r1, r2, r3, r4, r5⟩ := rdv_facts hb h (ft := k + 1) (by omega) (by omega)
    obtain ⟨a1, a2, a3, a4, a5, a6⟩ := shq_facts hb d (rdv b q (k + 1)).1 (rdv b q (k + 1)).2 r3 r1 (by omega)
    obtain ⟨c1, c2, c3, c4, c5, c6⟩ := shq_facts hb d (k - (rdv b q (k + 1)).1) (shq b d (rdv b q (k + 1)).1 (rdv b q (k + 1)).2).1 a1 (by omega) (by omega)
    have hp : 2 ^ (d + 1) = 2 * 2 ^ d := by rw [Nat.pow_succ, Nat.mul_comm]
    have hp1 : 1 ≤ 2 ^ d := Nat.one_le_two_pow
    refine ⟨c1, by simp only [shq]; omega, by simp only [shq]; omega, by simp only [shq, List.length_append]; omega, fun x hx => ?_, by simp only [shq, tot_app]; omega⟩
    simp only [shq, List.mem_append] at hx
    rcases hx with hx | hx
    · exact a5 x hx
    · exact c5 x hx
theorem p2_16 {d : Nat} (h : d ≤ 4) : 2 ^ d ≤ 16 := by
  have : 2 ^ d ≤ 2 ^ 4 := Nat.pow_le_pow_right (by omega) h
  omega
section
variable {N : Nat} {b : List Int} {back window waiting C : Int} {bad : Bool}
theorem share9_G (hb : Bytes b) (hl : True → b.length < 1099511627776) (hN : 300 ≤ N) (c0 : 0 ≤ C) (c1 : True → C < 549755813888) {M : Nat} (hM : True → M ≤ 1000000) : ∀ (nn d : Nat) (k : Int) (q : Q) (l : List Int), q.Ok → 0 ≤ k → k ≤ 16 → l.length = 2 ^ d → d ≤ 4 → d < nn → q.m + 4 * 2 ^ d ≤ M →
    Rc.share9.G N nn k q.rng q.val q.last (fr b q.m) back window waiting (C + 8 * (q.m : Int)) bad b l =
      some ((shq b d k q).1.rng, (shq b d k q).1.val, (shq b d k q).1.last, fr b (shq b d k q).1.m, back, window, waiting, C + 8 * ((shq b d k q).1.m : Int), bad, (shq b d k q).2)
  | 0, d, k, q, l, _, _, _, _, _, h, _ => by omega
  | nn + 1, 0, k, q, l, h, k0, k1, hd, _, _, _ => by
    unfold Rc.share9.G
    simp only [br_beq, chkL_same]
    rw [Nat.pow_zero] at hd
    rw [if_pos (by omega), chk_pos (by omega)]
    match l, hd with
    | [x], _ => rfl
  | nn + 1, d + 1, k, q, l, h, k0, k1, hd, hd4, hn, hm => by
    have hp : 2 ^ (d + 1) = 2 * 2 ^ d := by rw [Nat.pow_succ, Nat.mul_comm]
    have hp1 : 1 ≤ 2 ^ d := Nat.one_le_two_pow
    have hp2 := p2_16 hd4
    have c1' := c1 trivial
    have hl' := hl trivial
    have hM' := hM trivial
    obtain ⟨r1, r2, r3, r4, r5⟩ := rdv_facts hb h (ft := k + 1) (by omega) (by omega)
    obtain ⟨a1, a2, a3, a4, a5, a6⟩ := shq_facts hb d (rdv b q (k + 1)).1 (rdv b q (k + 1)).2 r3 r1 (by omega)
    obtain ⟨e1, e2, e3, e4, e5, e6⟩ := shq_facts hb d (k - (rdv b q (k + 1)).1) (shq b d (rdv b q (k + 1)).1 (rdv b q (k + 1)).2).1 a1 (by omega) (by omega)
    have hH : IntKind.i64.wrap ((l.length : Int).tdiv 2) = ((2 ^ d : Nat) : Int) := by
      rw [tdiv_ediv (by omega), i64 (by omega) (by omega)]
      omega
    unfold Rc.share9.G
    simp only [br_beq, chkL_same, List.take_zero, List.nil_append, Nat.zero_add, Nat.sub_zero, List.drop_zero]
    rw [if_neg (by omega), i64 (x := k + 1) (by omega) (by omega), uint_rdv hb hl' h (by omega) c0 (by omega) hN, obind_of]
    simp only [hH, Int.toNat_natCast]
    have ih1 := share9_G hb hl hN c0 c1 hM nn d (rdv b q (k + 1)).1 (rdv b q (k + 1)).2 (List.take (2 ^ d) l) r3 r1 (by omega) (by rw [List.length_take]; omega) (by omega) (by omega) (by omega)
    rw [chk_pos (by omega), chk_pos (by omega), ih1, obind_of]
    have hlen : ((shq b d (rdv b q (k + 1)).1 (rdv b q (k + 1)).2).2 ++ List.drop (2 ^ d) l).length = 2 * 2 ^ d := by rw [List.length_append, a4, List.length_drop]; omega
    have hH2 : IntKind.i64.wrap ((((shq b d (rdv b q (k + 1)).1 (rdv b q (k + 1)).2).2 ++ List.drop (2 ^ d) l).length : Int).tdiv 2) = ((2 ^ d : Nat) : Int) := by
      rw [hlen, tdiv_ediv (by omega), i64 (by omega) (by omega)]
      omega
    simp only [hH2, Int.toNat_natCast]
    simp only [hlen]
    have ih2 := share9_G hb hl hN c0 c1 hM nn d (k - (rdv b q (k + 1)).1) (shq b d (rdv b q (k + 1)).1 (rdv b q (k + 1)).2).1 (List.take (2 * 2 ^ d - 2 ^ d) (List.drop (2 ^ d) ((shq b d (rdv b q (k + 1)).1 (rdv b q (k + 1)).2).2 ++ List.drop (2 ^ d) l))) a1 (by omega) (by omega) (by rw [List.length_take, List.length_drop, hlen]; omega) (by omega) (by omega) (by omega)
    rw [chk_pos (by omega), chk_pos (by omega), i64 (x := k - (rdv b q (k + 1)).1) (by omega) (by omega), ih2, obind_of, List.take_left' a4, List.drop_eq_nil_of_le (by omega), List.append_nil]
    rfl
end
end Go.Pl
