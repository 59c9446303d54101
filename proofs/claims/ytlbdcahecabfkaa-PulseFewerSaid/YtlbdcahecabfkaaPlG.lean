/-
  Plain words of chapter 3, those that hang on no law (taken out of the texts of L3 by split.py).
  Conditions: none.
-/
import Derived.Test.YtlbdcahecabfkaaPlRc4
set_option linter.unusedSimpArgs false
set_option linter.unusedVariables false
namespace Go.Pl
open Go.Eng Go.Proofs
def icdfT (n : Int) : List Int :=
  if n = 0 then [192, 96, 0] else if n = 1 then [224, 192, 160, 128, 96, 64, 32, 0] else
  if n = 2 then [252, 247, 240, 230, 214, 190, 150, 106, 66, 42, 26, 16, 10, 6, 4, 2, 0] else
  if n = 3 then [240, 224, 208, 192, 176, 160, 144, 128, 112, 96, 80, 64, 48, 32, 16, 0] else
  if n = 4 then [253, 244, 222, 170, 86, 34, 12, 3, 0] else
  if n = 5 then [218, 180, 148, 122, 100, 82, 67, 54, 43, 34, 26, 19, 14, 10, 6, 3, 0] else
  if n = 6 then [205, 163, 128, 97, 70, 44, 20, 0] else if n = 7 then [231, 155, 38, 0] else
  if n = 8 then [192, 128, 64, 0] else []
theorem icdf_F {N : Nat} (n : Int) : Rc.icdf.F N n = some (icdfT n) := by
  unfold Rc.icdf.F icdfT
  simp only [br_beq]
  repeat' split
  all_goals rfl
theorem good_of {t : List Int} (h : (1 ≤ t.length ∧ t.length ≤ 256 ∧ t.getD (t.length - 1) 0 = 0 ∧ t.getD 0 0 < 256) ∧ ∀ k, k < t.length → 1 ≤ k → t.getD k 0 < t.getD (k - 1) 0) : GoodT t :=
  ⟨h.1.1, h.1.2.1, h.1.2.2.1, h.1.2.2.2, fun k h1 h2 => h.2 k h2 h1⟩
theorem icdf_good {n : Int} (h0 : 0 ≤ n) (h1 : n ≤ 8) : GoodT (icdfT n) := by
  have : n = 0 ∨ n = 1 ∨ n = 2 ∨ n = 3 ∨ n = 4 ∨ n = 5 ∨ n = 6 ∨ n = 7 ∨ n = 8 := by omega
  rcases this with rfl | rfl | rfl | rfl | rfl | rfl | rfl | rfl | rfl <;> exact good_of (by decide)
theorem mask7 (x : Int) : IntKind.i64.wrap ↑(BitVec.ofInt IntKind.i64.bits x &&& BitVec.ofInt IntKind.i64.bits 7).toNat = x % 8 := by
  rw [bits_i64, and_mask_any (w := 64) (k := 3) x (m := 7) rfl (by omega), i64 (by omega) (by omega)]
  rfl
theorem mask15 (x : Int) : IntKind.i64.wrap ↑(BitVec.ofInt IntKind.i64.bits x &&& BitVec.ofInt IntKind.i64.bits 15).toNat = x % 16 := by
  rw [bits_i64, and_mask_any (w := 64) (k := 4) x (m := 15) rfl (by omega), i64 (by omega) (by omega)]
  rfl
theorem cnew_range (b : List Int) : 0 ≤ cnew b ∧ cnew b ≤ 41 := by
  have := Q.new_m b
  unfold cnew
  omega
theorem ct_range {b : List Int} {q q' : Q} (h : q.m ≤ q'.m ∧ q'.m ≤ q.m + 4) (c : Int) : c ≤ ct c q q' ∧ ct c q q' ≤ c + 32 := by
  unfold ct
  omega
def W.new : W := ⟨0, 0, 0⟩
theorem W.new_ok : W.new.Ok := ⟨by decide, by decide, by decide⟩
theorem Q.norm_congr {b c : List Int} : ∀ (n : Nat) (q : Q), (∀ j, q.m ≤ j → j < (Q.norm b n q).m → nb b j = nb c j) → Q.norm c n q = Q.norm b n q
  | 0, q, _ => rfl
  | n + 1, q, h => by
    simp only [Q.norm] at h ⊢
    split
    · rename_i hr
      rw [if_pos hr] at h
      have hm := Q.norm_m b n (q.step b)
      have em : (q.step b).m = q.m + 1 := rfl
      have e : q.step c = q.step b := by
        unfold Q.step
        rw [h q.m (Nat.le_refl _) (by omega)]
      rw [e]
      exact Q.norm_congr n _ fun j hj hj2 => h j (by omega) hj2
    · rfl
theorem Q.on_congr {b c : List Int} {q : Q} (h : ∀ j, j < (q.on b).m → nb b j = nb c j) : q.on c = q.on b := Q.norm_congr 4 q fun j _ hj => h j hj
theorem Q.sy_congr {b c : List Int} {q : Q} {t : List Int} (h : ∀ j, j < (q.sy b t).m → nb b j = nb c j) : q.sy c t = q.sy b t := Q.on_congr h
theorem Q.fl_congr {b c : List Int} {q : Q} {n : Int} (h : ∀ j, j < (q.fl b n).m → nb b j = nb c j) : q.fl c n = q.fl b n := Q.on_congr h
theorem Q.sy_m (b : List Int) (q : Q) (t : List Int) : q.m ≤ (q.sy b t).m ∧ (q.sy b t).m ≤ q.m + 4 := Q.tk_m b q _ _ _
theorem Q.sy_ok {b : List Int} (hb : Bytes b) {q : Q} (h : q.Ok) {t : List Int} (g : GoodT t) : (q.sy b t).Ok := Q.tk_ok hb h (Q.sk_spec h g).2
theorem nb_app {b c : List Int} {j : Nat} (h : j < b.length) : nb (b ++ c) j = nb b j := by
  simp [nb, List.getD_eq_getElem?_getD, List.getElem?_append_left h]
theorem nb_zeros (b : List Int) (n j : Nat) : nb (b ++ zeros n) j = nb b j := by
  rcases Nat.lt_or_ge j b.length with h | h
  · exact nb_app h
  · rw [show nb b j = 0 from getD_out h]
    simp only [nb, List.getD_eq_getElem?_getD, List.getElem?_append_right h, zeros, List.getElem?_replicate]
    split <;> rfl
theorem bytes_app {b c : List Int} (hb : Bytes b) (hc : Bytes c) : Bytes (b ++ c) := fun x hx => by
  rcases List.mem_append.1 hx with h | h
  · exact hb x h
  · exact hc x h
theorem bytes_zeros (n : Nat) : Bytes (zeros n) := fun x hx => by
  have := List.eq_of_mem_replicate hx
  omega
theorem Q.new_rng (b : List Int) : (Q.new b).rng = 2147483648 ∧ (Q.new b).m = 4 := by
  have : Q.new b = ((((Q.new0 b).step b).step b).step b) := rfl
  rw [this]
  exact ⟨rfl, rfl⟩
theorem cnew_eq (b : List Int) : cnew b = 1 + 8 * ((Q.new b).m : Int) := by
  have := (Q.new_rng b).2
  unfold cnew
  omega
def bitE (b : List Int) (p : Nat) : Int := (eb b (p / 8) / 2 ^ (p % 8)) % 2
theorem bitE_range (b : List Int) (p : Nat) : 0 ≤ bitE b p ∧ bitE b p < 2 := by unfold bitE; omega
def bsum (b : List Int) (P : Nat) : Nat → Int
  | 0 => 0
  | n + 1 => bsum b P n + bitE b (P + n) * 2 ^ n
theorem bsum_range (b : List Int) (P : Nat) : ∀ n, 0 ≤ bsum b P n ∧ bsum b P n < 2 ^ n
  | 0 => by simp [bsum]
  | n + 1 => by
    obtain ⟨h1, h2⟩ := bsum_range b P n
    obtain ⟨h3, h4⟩ := bitE_range b (P + n)
    have h5 := p2pos n
    have h6 : 0 ≤ bitE b (P + n) * 2 ^ n := Int.mul_nonneg h3 (by omega)
    have h7 : bitE b (P + n) * 2 ^ n ≤ 1 * 2 ^ n := Int.mul_le_mul_of_nonneg_right (by omega) (by omega)
    simp only [bsum, Int.pow_succ]
    omega
theorem bsum_split (b : List Int) (P a : Nat) : ∀ c, bsum b P (a + c) = bsum b P a + 2 ^ a * bsum b (P + a) c
  | 0 => by simp [bsum]
  | c + 1 => by
    rw [← Nat.add_assoc]
    simp only [bsum]
    rw [bsum_split b P a c, Int.pow_add, Nat.add_assoc P a c, Int.mul_add, ← Int.mul_assoc (2 ^ a), Int.mul_comm (2 ^ a) (bitE b _), Int.mul_assoc (bitE b _), Int.add_assoc]
theorem bsum_byte {b : List Int} (hb : Bytes b) (k : Nat) : bsum b (8 * k) 8 = eb b k := by
  obtain ⟨h1, h2⟩ := eb_range hb k
  simp only [bsum, bitE]
  rw [show (8 * k + 0) / 8 = k by omega, show (8 * k + 1) / 8 = k by omega, show (8 * k + 2) / 8 = k by omega, show (8 * k + 3) / 8 = k by omega, show (8 * k + 4) / 8 = k by omega, show (8 * k + 5) / 8 = k by omega, show (8 * k + 6) / 8 = k by omega, show (8 * k + 7) / 8 = k by omega]
  rw [show (8 * k + 0) % 8 = 0 by omega, show (8 * k + 1) % 8 = 1 by omega, show (8 * k + 2) % 8 = 2 by omega, show (8 * k + 3) % 8 = 3 by omega, show (8 * k + 4) % 8 = 4 by omega, show (8 * k + 5) % 8 = 5 by omega, show (8 * k + 6) % 8 = 6 by omega, show (8 * k + 7) % 8 = 7 by omega]
  generalize eb b k = x at h1 h2 ⊢
  have e0 : (2 : Int) ^ 0 = 1 := rfl
  have e1 : (2 : Int) ^ 1 = 2 := rfl
  have e2 : (2 : Int) ^ 2 = 4 := rfl
  have e3 : (2 : Int) ^ 3 = 8 := rfl
  have e4 : (2 : Int) ^ 4 = 16 := rfl
  have e5 : (2 : Int) ^ 5 = 32 := rfl
  have e6 : (2 : Int) ^ 6 = 64 := rfl
  have e7 : (2 : Int) ^ 7 = 128 := rfl
  rw [e0, e1, e2, e3, e4, e5, e6, e7]
  omega
structure W.At (b : List Int) (w : W) (P : Nat) : Prop where
  a : 8 * w.k = P + w.wai
  b : w.win = bsum b P w.wai
theorem W.At.step {b : List Int} (hb : Bytes b) {w : W} {P : Nat} (h : w.At b P) : (w.step b).At b P := by
  refine ⟨by have := h.a; simp only [W.step]; omega, ?_⟩
  simp only [W.step]
  rw [bsum_split, h.b, show P + w.wai = 8 * w.k by have := h.a; omega, bsum_byte hb, Int.mul_comm]
theorem W.At.fill {b : List Int} (hb : Bytes b) {P n : Nat} : ∀ (f : Nat) (w : W), w.At b P → (W.fill b n f w).At b P
  | 0, w, h => h
  | f + 1, w, h => by
    simp only [W.fill]
    split
    · exact W.At.fill hb f _ (h.step hb)
    · exact h
theorem W.At.next {b : List Int} (hb : Bytes b) {w : W} {P n : Nat} (h : w.At b P) (hn : n ≤ 24) : w.val b n = bsum b P n ∧ (w.next b n).At b (P + n) := by
  have hf := W.At.fill (n := n) hb 4 w h
  have h4 := W.fill_n (b := b) (n := n) 4 w (by omega)
  obtain ⟨r0, r1⟩ := bsum_range b P n
  have hp := p2pos n
  have e : (W.fill b n 4 w).win = bsum b P n + 2 ^ n * bsum b (P + n) ((W.fill b n 4 w).wai - n) := by
    rw [hf.b, ← bsum_split]
    congr 1
    omega
  refine ⟨?_, ⟨?_, ?_⟩⟩
  · unfold W.val W.at
    rw [e, Int.add_mul_emod_self_left, Int.emod_eq_of_lt r0 r1]
  · have := hf.a
    simp only [W.next, W.at]
    omega
  · simp only [W.next, W.at]
    rw [e, Int.add_mul_ediv_left _ _ (by omega), Int.ediv_eq_zero_of_lt r0 r1, Int.zero_add]
theorem and1_8 {a : Int} (h0 : 0 ≤ a) (h1 : a < 256) : IntKind.u8.wrap ↑(BitVec.ofInt IntKind.u8.bits a &&& BitVec.ofInt IntKind.u8.bits 1).toNat = a % 2 := by
  rw [bits_u8, and_mask (w := 8) (k := 1) (m := 1) h0 (by show a < 256; exact h1) rfl (by omega), u8 (by omega) (by omega)]
  rfl
end Go.Pl
