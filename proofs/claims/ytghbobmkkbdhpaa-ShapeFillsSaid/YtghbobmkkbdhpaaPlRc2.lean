/-
  Chapter 3 in plain words: to choose, to take, tables, symbols, flags.
  Conditions: none.
-/
import Derived.Test.YtghbobmkkbdhpaaPlRc
set_option linter.unusedSimpArgs false
set_option linter.unusedVariables false
namespace Go.Pl
open Go.Eng Go.Proofs

/-! ### Choosing and taking -/
def Q.ch (q : Q) (ft : Int) : Int := ft - min (q.val / (q.rng / ft) + 1) ft
/-- Ahead of going on. -/
def Q.tk0 (q : Q) (fl fh ft : Int) : Q := ⟨if fl > 0 then q.rng / ft * (fh - fl) else q.rng - q.rng / ft * (ft - fh), q.val - q.rng / ft * (ft - fh), q.last, q.m⟩
def Q.tk (b : List Int) (q : Q) (fl fh ft : Int) : Q := (q.tk0 fl fh ft).on b

theorem e_facts {r ft : Int} (h0 : 8388608 < r) (f0 : 1 ≤ ft) (f1 : ft ≤ 65536) : 1 ≤ r / ft ∧ r / ft * ft ≤ r ∧ r / ft ≤ r := by
  have h1 := Int.ediv_mul_le r (show ft ≠ 0 by omega)
  have h2 : 1 ≤ r / ft := by
    rw [Int.le_ediv_iff_mul_le (by omega)]
    omega
  refine ⟨h2, h1, ?_⟩
  have : r / ft * 1 ≤ r / ft * ft := Int.mul_le_mul_of_nonneg_left f0 (by omega)
  omega

theorem d_facts {v e : Int} (h0 : 0 ≤ v) (he : 1 ≤ e) : 0 ≤ v / e ∧ v / e * e ≤ v ∧ v < (v / e + 1) * e ∧ v / e ≤ v := by
  have h1 := Int.ediv_mul_le v (show e ≠ 0 by omega)
  have h2 := Int.lt_ediv_add_one_mul_self v (show 0 < e by omega)
  have h3 : 0 ≤ v / e := Int.ediv_nonneg h0 (by omega)
  refine ⟨h3, h1, h2, ?_⟩
  have : v / e * 1 ≤ v / e * e := Int.mul_le_mul_of_nonneg_left he h3
  omega

theorem Q.ch_range {q : Q} (h : q.Ok) {ft : Int} (f0 : 1 ≤ ft) (f1 : ft ≤ 65536) : 0 ≤ q.ch ft ∧ q.ch ft < ft := by
  obtain ⟨e0, _, _⟩ := e_facts h.r0 f0 f1
  obtain ⟨d0, _⟩ := d_facts h.v0 e0
  unfold Q.ch
  omega

/-- What is taken lies so. -/
structure Takes (q : Q) (fl fh ft : Int) : Prop where
  f0 : 1 ≤ ft
  f1 : ft ≤ 65536
  a : 0 ≤ fl
  b : fl ≤ q.ch ft
  c : q.ch ft < fh
  d : fh ≤ ft

theorem Takes.bounds {q : Q} (h : q.Ok) {fl fh ft : Int} (t : Takes q fl fh ft) :
    0 ≤ q.rng / ft * (ft - fh) ∧ q.rng / ft * (ft - fh) ≤ q.val ∧ q.rng / ft * (ft - fh) ≤ q.rng ∧ 1 ≤ q.rng / ft * (fh - fl) ∧ q.rng / ft * (fh - fl) ≤ q.rng ∧ (fl > 0 → q.val - q.rng / ft * (ft - fh) < q.rng / ft * (fh - fl)) := by
  obtain ⟨f0, f1, ha, hb, hc, hd⟩ := t
  obtain ⟨e0, e1, e2⟩ := e_facts h.r0 f0 f1
  obtain ⟨d0, d1, d2, d3⟩ := d_facts h.v0 e0
  unfold Q.ch at hb hc
  generalize hE : q.rng / ft = E at *
  generalize hD : q.val / E = D at *
  have hv1 := h.v1
  have k1 : 0 ≤ E * (ft - fh) := Int.mul_nonneg (by omega) (by omega)
  have k2 : E * (ft - fh) ≤ E * D := Int.mul_le_mul_of_nonneg_left (by omega) (by omega)
  have k3 : E * D = D * E := Int.mul_comm _ _
  have k4 : E * 1 ≤ E * (fh - fl) := Int.mul_le_mul_of_nonneg_left (by omega) (by omega)
  have k5 : E * (fh - fl) ≤ E * ft := Int.mul_le_mul_of_nonneg_left (by omega) (by omega)
  have k6 : E * (fh - fl) = E * (ft - fl) - E * (ft - fh) := by rw [← Int.mul_sub]; congr 1; omega
  refine ⟨k1, by omega, by omega, by omega, by omega, fun hfl => ?_⟩
  have k7 : (D + 1) * E ≤ E * (ft - fl) := by
    rw [Int.mul_comm]
    exact Int.mul_le_mul_of_nonneg_left (by omega) (by omega)
  omega

theorem Q.tk0_pre {q : Q} (h : q.Ok) {fl fh ft : Int} (t : Takes q fl fh ft) : (q.tk0 fl fh ft).Pre := by
  obtain ⟨k1, k2, k3, k4, k5, k6⟩ := t.bounds h
  have h1 := h.r1
  have h2 := h.v1
  have h3 := h.v0
  refine ⟨?_, ?_, ?_, ?_, h.l0, h.l1⟩
  · simp only [Q.tk0]; split <;> omega
  · simp only [Q.tk0]; split <;> omega
  · simp only [Q.tk0]; omega
  · simp only [Q.tk0]
    split
    · rename_i hf; exact k6 hf
    · omega

theorem Q.tk_ok {b : List Int} (hb : Bytes b) {q : Q} (h : q.Ok) {fl fh ft : Int} (t : Takes q fl fh ft) : (q.tk b fl fh ft).Ok := Q.on_ok hb (q.tk0_pre h t)

theorem Q.tk_m (b : List Int) (q : Q) (fl fh ft : Int) : q.m ≤ (q.tk b fl fh ft).m ∧ (q.tk b fl fh ft).m ≤ q.m + 4 := Q.on_m b (q.tk0 fl fh ft)

/-- How many bits were told of. -/
def ct (c : Int) (q q' : Q) : Int := c + 8 * ((q'.m - q.m : Nat) : Int)

section
variable {N : Nat} {front back window waiting count : Int} {bad : Bool} {b : List Int}

theorem choose_F {q : Q} (h : q.Ok) {ft : Int} (f0 : 1 ≤ ft) (f1 : ft ≤ 65536) :
    Rc.choose.F N ft q.rng q.val q.last front back window waiting count bad b = some (q.ch ft) := by
  obtain ⟨e0, e1, e2⟩ := e_facts h.r0 f0 f1
  obtain ⟨d0, d1, d2, d3⟩ := d_facts h.v0 e0
  have h1 := h.r1
  have h2 := h.v1
  unfold Rc.choose.F Q.ch
  simp only [chkI_same, chkB_same, chkL_same]
  rw [tdiv_ediv (by omega), u64 (x := q.rng / ft) (by omega) (by omega), chk_pos (by omega), chk_pos (by omega), tdiv_ediv (by omega), u64 (x := q.val / _) d0 (by omega), u64 (x := _ + 1) (by omega) (by omega)]
  by_cases hlt : ft < q.val / (q.rng / ft) + 1
  · rw [if_pos hlt, u64 (by omega) (by omega)]
    exact congrArg some (by omega : (ft - ft : Int) = ft - min (q.val / (q.rng / ft) + 1) ft)
  · rw [if_neg hlt, u64 (by omega) (by omega)]
    exact congrArg some (by omega : (ft - (q.val / (q.rng / ft) + 1) : Int) = ft - min (q.val / (q.rng / ft) + 1) ft)

theorem take_F (hb : Bytes b) (hl : b.length < 1099511627776) {q : Q} (h : q.Ok) {fl fh ft : Int} (t : Takes q fl fh ft) (hc0 : 0 ≤ count) (hc1 : count < 1099511627776) (hN : 8 ≤ N) :
    Rc.take.F N fl fh ft q.rng q.val q.last (fr b q.m) back window waiting count bad b =
      some ((q.tk b fl fh ft).rng, (q.tk b fl fh ft).val, (q.tk b fl fh ft).last, fr b (q.tk b fl fh ft).m, ct count q (q.tk b fl fh ft)) := by
  have hp := q.tk0_pre h t
  obtain ⟨k1, k2, k3, k4, k5, k6⟩ := t.bounds h
  obtain ⟨f0, f1, ha, hb', hc, hd⟩ := t
  obtain ⟨e0, e1, e2⟩ := e_facts h.r0 f0 f1
  have h1 := h.r1
  have h2 := h.v1
  obtain ⟨c0, c1⟩ := Q.ch_range h f0 f1
  have hn := norm_F (N := N) (back := back) (window := window) (waiting := waiting) (count := count) (bad := bad) hb hl hp hc0 hc1 hN
  unfold Rc.take.F
  simp only [chkI_same, chkB_same, chkL_same, br_dec]
  rw [tdiv_ediv (by omega), u64 (x := q.rng / ft) (by omega) (by omega), chk_pos (by omega), u64 (x := ft - fh) (by omega) (by omega), u64 (x := fh - fl) (by omega) (by omega),
    u64 (x := _ * (ft - fh)) (by omega) (by omega), u64 (x := _ * (fh - fl)) (by omega) (by omega), u64 (x := q.val - _) (by omega) (by omega), u64 (x := q.rng - _) (by omega) (by omega)]
  simp only [Q.tk0] at hn
  split
  · rename_i hf
    rw [if_pos hf] at hn
    rw [hn]
    simp only [obind_of, Q.tk, Q.tk0, if_pos hf, ct]
  · rename_i hf
    rw [if_neg hf] at hn
    rw [hn]
    simp only [obind_of, Q.tk, Q.tk0, if_neg hf, ct]
end

/-! ### The document's reader -/
section
variable {N : Nat} {front back wait waiting count eq : Int} {bad : Bool} {b : List Int}

theorem rnext_F {rng val last : Int} (hb : Bytes b) (hl : b.length < 1099511627776) (m : Nat) :
    Rc.rnext.F N rng val last (fr b m) back wait waiting count eq bad b = some (nb b m, fr b (m + 1)) := by
  unfold Rc.rnext.F fr
  simp only [br_dec, chkI_same, chkB_same, chkL_same]
  by_cases h : m < b.length
  · have e1 : min m b.length = m := by omega
    have e2 : min (m + 1) b.length = m + 1 := by omega
    rw [e1, e2, if_neg (by omega), i64 (x := (m : Int) + 1) (by omega) (by omega), i64 (x := (m : Int) + 1 - 1) (by omega) (by omega), chk_pos (by omega)]
    have e3 : ((m : Int) + 1 - 1).toNat = m := by omega
    obtain ⟨h1, h2⟩ := nb_range hb m
    unfold nb at h1 h2 ⊢
    rw [e3, i64 (x := b.getD m 0) (by omega) (by omega)]
    rfl
  · have e1 : min m b.length = b.length := by omega
    have e2 : min (m + 1) b.length = b.length := by omega
    rw [e1, e2, if_pos (by omega)]
    unfold nb
    rw [getD_out (by omega)]

/-- A step's value, in the reference's words. -/
theorem rstep_val {val last x : Int} (h0 : 0 ≤ val) (h1 : val < 8388608) (l0 : 0 ≤ last) (l1 : last < 256) (x0 : 0 ≤ x) (x1 : x < 256) :
    (IntKind.u64.wrap (IntKind.u64.wrap (256 * val) + IntKind.u64.wrap (IntKind.i64.wrap (255 - (IntKind.i64.wrap ((IntKind.i64.wrap (IntKind.i64.wrap (256 * last) + x)).tdiv 2)).tmod 256)))).tmod 2147483648 =
      val * 256 + 255 - ((last * 256 + x) / 2) % 256 := by
  rw [i64 (x := 256 * last) (by omega) (by omega), i64 (x := 256 * last + x) (by omega) (by omega), tdiv_ediv (by omega), i64 (x := (256 * last + x) / 2) (by omega) (by omega), tmod_emod (a := (256 * last + x) / 2) (by omega),
    i64 (x := 255 - _) (by omega) (by omega), u64 (x := 255 - _) (by omega) (by omega), u64 (x := 256 * val) (by omega) (by omega), u64 (x := 256 * val + _) (by omega) (by omega), tmod_emod (by omega)]
  omega

theorem ron_loop (hb : Bytes b) (hl : b.length < 1099511627776) :
    ∀ (nn n : Nat) (q : Q) (count : Int), q.Pre → 8388608 < q.rng * 256 ^ n → 0 ≤ count → count + 8 * n < 2199023255552 → n < nn →
      Rc.ron.loop0 N nn back wait waiting eq bad b q.rng q.val q.last (fr b q.m) count =
        some ((Q.norm b n q).rng, (Q.norm b n q).val, (Q.norm b n q).last, fr b (Q.norm b n q).m, count + 8 * (((Q.norm b n q).m - q.m : Nat) : Int))
  | 0, n, q, count, h, hn, hc0, hc1, h0 => by omega
  | nn + 1, n, q, count, h, hn, hc0, hc1, h0 => by
    unfold Rc.ron.loop0
    simp only [br_dec, chkI_same, chkB_same, chkL_same, rnext_F hb hl, obind_of]
    by_cases hr : q.rng ≤ 8388608
    · rw [if_pos hr]
      cases n with
      | zero => simp at hn; omega
      | succ n =>
        have hs := h.step hb hr
        have ih := ron_loop hb hl nn n (q.step b) (count + 8) hs (by
          simp only [Q.step]
          rw [Int.pow_succ] at hn
          rw [Int.mul_assoc, Int.mul_comm 256]
          exact hn) (by omega) (by omega) (by omega)
        obtain ⟨h1, h2, h3, h4, h5, h6⟩ := h
        obtain ⟨h7, h8⟩ := nb_range hb q.m
        have hm := Q.norm_m b n (q.step b)
        rw [rstep_val h3 (by omega) h5 h6 h7 h8, u64 (by omega) (by omega), i64 (by omega) (by omega)]
        simp only [Q.step] at ih hm ⊢
        rw [ih]
        simp only [Q.norm, if_pos hr, Q.step]
        congr 5
        omega
    · rw [if_neg hr]
      have hs := Q.norm_stop b (q := q) (by omega) n
      rw [hs]
      simp

theorem ron_F (hb : Bytes b) (hl : b.length < 1099511627776) {q : Q} (h : q.Pre) (hc0 : 0 ≤ count) (hc1 : count < 1099511627776) (hN : 8 ≤ N) :
    Rc.ron.F N q.rng q.val q.last (fr b q.m) back wait waiting count eq bad b =
      some ((q.on b).rng, (q.on b).val, (q.on b).last, fr b (q.on b).m, count + 8 * (((q.on b).m - q.m : Nat) : Int)) := by
  unfold Rc.ron.F
  rw [ron_loop hb hl N 4 q count h (by have := h.r0; omega) hc0 (by omega) (by omega)]
  simp only [obind_of, chkI_same, chkB_same, chkL_same]
  rfl

theorem rchoose_F {q : Q} (h : q.Ok) {ft : Int} (f0 : 1 ≤ ft) (f1 : ft ≤ 65536) :
    Rc.rchoose.F N ft q.rng q.val q.last front back wait waiting count eq bad b = some (q.ch ft, q.rng / ft) := by
  obtain ⟨e0, e1, e2⟩ := e_facts h.r0 f0 f1
  obtain ⟨d0, d1, d2, d3⟩ := d_facts h.v0 e0
  have h1 := h.r1
  have h2 := h.v1
  unfold Rc.rchoose.F Q.ch
  simp only [chkI_same, chkB_same, chkL_same, br_dec]
  rw [tdiv_ediv (by omega), u64 (x := q.rng / ft) (by omega) (by omega), chk_pos (by omega), chk_pos (by omega), tdiv_ediv (by omega), u64 (x := q.val / _) d0 (by omega), u64 (x := _ + 1) (by omega) (by omega)]
  split
  · rw [u64 (by omega) (by omega), Option.some.injEq, Prod.mk.injEq]; exact ⟨by omega, rfl⟩
  · rw [u64 (by omega) (by omega), Option.some.injEq, Prod.mk.injEq]; exact ⟨by omega, rfl⟩

theorem rtake_F (hb : Bytes b) (hl : b.length < 1099511627776) {q : Q} (h : q.Ok) {fl fh ft : Int} (t : Takes q fl fh ft) (hc0 : 0 ≤ count) (hc1 : count < 1099511627776) (hN : 8 ≤ N) :
    Rc.rtake.F N fl fh ft q.rng q.val q.last (fr b q.m) back wait waiting count (q.rng / ft) bad b =
      some ((q.tk b fl fh ft).rng, (q.tk b fl fh ft).val, (q.tk b fl fh ft).last, fr b (q.tk b fl fh ft).m, ct count q (q.tk b fl fh ft)) := by
  have hp := q.tk0_pre h t
  obtain ⟨k1, k2, k3, k4, k5, k6⟩ := t.bounds h
  obtain ⟨f0, f1, ha, hb', hc, hd⟩ := t
  obtain ⟨e0, e1, e2⟩ := e_facts h.r0 f0 f1
  have h1 := h.r1
  have h2 := h.v1
  obtain ⟨c0, c1⟩ := Q.ch_range h f0 f1
  have hn := ron_F (N := N) (back := back) (wait := wait) (waiting := waiting) (count := count) (eq := q.rng / ft) (bad := bad) hb hl hp hc0 hc1 hN
  unfold Rc.rtake.F
  simp only [chkI_same, chkB_same, chkL_same, br_dec]
  rw [u64 (x := ft - fh) (by omega) (by omega), u64 (x := fh - fl) (by omega) (by omega),
    u64 (x := _ * (ft - fh)) (by omega) (by omega), u64 (x := _ * (fh - fl)) (by omega) (by omega), u64 (x := q.val - _) (by omega) (by omega), u64 (x := q.rng - _) (by omega) (by omega)]
  simp only [Q.tk0] at hn
  split
  · rename_i hf
    rw [if_pos hf] at hn
    rw [hn]
    simp only [obind_of, Q.tk, Q.tk0, if_pos hf, ct]
  · rename_i hf
    rw [if_neg hf] at hn
    rw [hn]
    simp only [obind_of, Q.tk, Q.tk0, if_neg hf, ct]
end

/-! ### Tables -/
structure GoodT (t : List Int) : Prop where
  n0 : 1 ≤ t.length
  n1 : t.length ≤ 256
  last : t.getD (t.length - 1) 0 = 0
  first : t.getD 0 0 < 256
  down : ∀ k, 1 ≤ k → k < t.length → t.getD k 0 < t.getD (k - 1) 0

theorem GoodT.le {t : List Int} (h : GoodT t) : ∀ (d k : Nat), k + d < t.length → t.getD (k + d) 0 + d ≤ t.getD k 0
  | 0, k, _ => by simp
  | d + 1, k, hk => by
    have h1 := h.le d k (by omega)
    have h2 := h.down (k + (d + 1)) (by omega) hk
    rw [show k + (d + 1) - 1 = k + d by omega] at h2
    omega

theorem GoodT.range {t : List Int} (h : GoodT t) {k : Nat} (hk : k < t.length) : 0 ≤ t.getD k 0 ∧ t.getD k 0 < 256 := by
  have h1 := h.le (t.length - 1 - k) k (by omega)
  have h2 := h.le k 0 (by omega)
  rw [show k + (t.length - 1 - k) = t.length - 1 by omega, h.last] at h1
  rw [Nat.zero_add] at h2
  have := h.first
  omega

open Classical in
noncomputable def goodT (t : List Int) : Bool := decide (GoodT t)

theorem goodT_true {t : List Int} : goodT t = true ↔ GoodT t := by simp [goodT]
theorem goodT_false {t : List Int} : goodT t = false ↔ ¬ GoodT t := by simp [goodT]

/-! ### Symbols -/
/-- The symbol at f: the first one whose upper end lies above. -/
def symK (t : List Int) (f : Int) : Nat → Nat → Nat
  | 0, k => k
  | n + 1, k => if 256 - t.getD k 0 ≤ f then symK t f n (k + 1) else k

theorem symK_spec {t : List Int} (h : GoodT t) {f : Int} (hf : f < 256) : ∀ (n k : Nat), k < t.length → t.length ≤ n + k → (∀ j, j < k → 256 - t.getD j 0 ≤ f) →
    symK t f n k < t.length ∧ f < 256 - t.getD (symK t f n k) 0 ∧ ∀ j, j < symK t f n k → 256 - t.getD j 0 ≤ f
  | 0, k, hk, hn, _ => by omega
  | n + 1, k, hk, hn, hj => by
    simp only [symK]
    split
    · rename_i hc
      by_cases hk2 : k + 1 < t.length
      · refine symK_spec h hf n (k + 1) hk2 (by omega) fun j hj2 => ?_
        rcases Nat.eq_or_lt_of_le (Nat.le_of_lt_succ hj2) with rfl | hlt
        · exact hc
        · exact hj j hlt
      · have : k = t.length - 1 := by omega
        rw [this, h.last] at hc
        omega
    · rename_i hc
      exact ⟨hk, by omega, hj⟩

/-- The upper end of what stands ahead. -/
def symL (t : List Int) (k : Nat) : Int := if k = 0 then 0 else 256 - t.getD (k - 1) 0

/-- The symbol that comes. -/
def Q.sk (q : Q) (t : List Int) : Nat := symK t (q.ch 256) t.length 0
/-- The register behind it. -/
def Q.sy (b : List Int) (q : Q) (t : List Int) : Q := q.tk b (symL t (q.sk t)) (256 - t.getD (q.sk t) 0) 256

theorem Q.sk_spec {q : Q} (h : q.Ok) {t : List Int} (ht : GoodT t) : q.sk t < t.length ∧ Takes q (symL t (q.sk t)) (256 - t.getD (q.sk t) 0) 256 := by
  obtain ⟨c0, c1⟩ := Q.ch_range h (ft := 256) (by omega) (by omega)
  obtain ⟨k1, k2, k3⟩ := symK_spec ht c1 t.length 0 (by have := ht.n0; omega) (by omega) (fun j hj => by omega)
  refine ⟨k1, ⟨by omega, by omega, ?_, ?_, k2, ?_⟩⟩
  · unfold symL
    split
    · omega
    · have := ht.range (k := symK t (q.ch 256) t.length 0 - 1) (by omega)
      unfold Q.sk
      omega
  · unfold symL
    split
    · omega
    · rename_i hne
      exact k3 _ (by unfold Q.sk at hne ⊢; omega)
  · have := ht.range k1
    unfold Q.sk
    omega

section
variable {N : Nat} {back window waiting count : Int} {bad : Bool} {b : List Int}

end
section
variable {N : Nat} {back wait waiting count eq : Int} {bad : Bool} {b : List Int}

end
end Go.Pl
