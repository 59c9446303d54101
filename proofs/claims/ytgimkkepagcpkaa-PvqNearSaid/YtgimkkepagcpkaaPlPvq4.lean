/-
  Layer 17: places of vectors by the program and its twin; the statements PvqNumbers, PvqOrder, PvqFirst.
  Conditions: none.
-/
import Derived.Test.YtgimkkepagcpkaaPlPvq3
set_option linter.unusedSimpArgs false
set_option linter.unusedVariables false
namespace Go.Pl
open Go.Eng Go.Proofs
set_option maxRecDepth 100000

def psz (v : Int) : Int := if v < -65 ∨ v > 65 then 65 else v.natAbs
theorem psz_range (v : Int) : 0 ≤ psz v ∧ psz v ≤ 65 := by unfold psz; split <;> omega
def psumL : List Int → Int
  | [] => 0
  | x :: r => psz x + psumL r
theorem psum_range : ∀ y : List Int, 0 ≤ psumL y ∧ psumL y ≤ 65 * y.length
  | [] => by simp [psumL]
  | x :: r => by have := psum_range r; have := psz_range x; simp only [psumL, List.length_cons]; omega
theorem sz1_cons (x : Int) (r : List Int) : sz1 (x :: r) = x.natAbs + sz1 r := by simp [sz1]
theorem psum_small : ∀ y : List Int, psumL y ≤ 64 → psumL y = sz1 y ∧ ∀ x ∈ y, x.natAbs ≤ 64
  | [], _ => ⟨rfl, by simp⟩
  | x :: r, h => by
    have h1 := psum_range r
    have h2 := psz_range x
    simp only [psumL] at h
    obtain ⟨i1, i2⟩ := psum_small r (by omega)
    have hx : psz x = x.natAbs ∧ x.natAbs ≤ 64 := by
      unfold psz at h ⊢
      by_cases c : x < -65 ∨ x > 65
      · rw [if_pos c] at h; omega
      · rw [if_neg c] at h ⊢; omega
    refine ⟨by simp only [psumL, sz1_cons]; omega, fun z hz => ?_⟩
    rcases List.mem_cons.1 hz with rfl | hz
    · exact hx.2
    · exact i2 z hz
theorem sz1_small : ∀ y : List Int, sz1 y ≤ 64 → psumL y = sz1 y ∧ ∀ x ∈ y, x.natAbs ≤ 64
  | [], _ => ⟨rfl, by simp⟩
  | x :: r, h => by
    rw [sz1_cons] at h
    obtain ⟨i1, i2⟩ := sz1_small r (by omega)
    refine ⟨?_, fun z hz => ?_⟩
    · simp only [psumL, sz1_cons]
      unfold psz
      rw [if_neg (by omega)]
      omega
    · rcases List.mem_cons.1 hz with rfl | hz
      · omega
      · exact i2 z hz

theorem get_at (pre : List Int) (x : Int) (r : List Int) : (pre ++ x :: r).getD pre.length 0 = x := by simp [List.getD_eq_getElem?_getD]

section
variable {N : Nat}
theorem psize_F (v : Int) : Rc.psize.F N v = some (psz v) := by
  have hc : Rc.clamp.F N v (-65) 65 = some (if v < -65 then -65 else if v > 65 then 65 else v) := by
    unfold Rc.clamp.F
    simp only [br_dec]
    by_cases c1 : v < -65
    · rw [if_neg (by omega), if_pos c1, if_pos c1]
    by_cases c2 : v > 65
    · rw [if_neg (by omega), if_neg c1, if_pos c2, if_neg c1, if_pos c2]
    · rw [if_neg (by omega), if_neg c1, if_neg c2, if_neg c1, if_neg c2]
  unfold Rc.psize.F psz
  rw [hc, obind_of, obind_of]
  by_cases c1 : v < -65
  · rw [if_pos c1, if_pos (Or.inl c1), i64 (by omega) (by omega)]; rfl
  by_cases c2 : v > 65
  · rw [if_neg c1, if_pos c2, if_pos (Or.inr c2), i64 (by omega) (by omega)]; rfl
  · rw [if_neg c1, if_neg c2, if_neg (show ¬ (v < -65 ∨ v > 65) by omega), i64 (x := 0 - v) (by omega) (by omega)]
    refine congrArg some ?_
    show (if 0 - v > v then 0 - v else v : Int) = (v.natAbs : Int)
    by_cases c3 : 0 - v > v
    · rw [if_pos c3]; omega
    · rw [if_neg c3]; omega

theorem psum_loop {y : List Int} (hl : y.length ≤ 16) : ∀ (nn : Nat) (r pre : List Int) (s : Int), y = pre ++ r → r.length < nn → 0 ≤ s → s ≤ 65 * pre.length →
    Rc.pindex.loop5 N nn y.length y s pre.length = some (s + psumL r)
  | 0, r, pre, s, _, h, _, _ => by omega
  | nn + 1, r, pre, s, hy, h, s0, s1 => by
    unfold Rc.pindex.loop5
    simp only [br_dec, chkL_same, chkI_same]
    have hlen : y.length = pre.length + r.length := by rw [hy, List.length_append]
    cases r with
    | nil => rw [if_neg (by simp at hlen; omega)]; simp [psumL]
    | cons x r =>
      simp only [List.length_cons] at hlen h
      have hx := psz_range x
      have hg : y.getD pre.length 0 = x := by rw [hy, get_at]
      rw [if_pos (by omega), chk_pos (by omega), Int.toNat_natCast, hg, psize_F, obind_of, i64 (x := s + psz x) (by omega) (by omega), i64 (x := (pre.length : Int) + 1) (by omega) (by omega)]
      have := psum_loop hl nn r (pre ++ [x]) (s + psz x) (by rw [hy]; simp) (by omega) (by omega) (by simp; omega)
      rw [show (((pre ++ [x]).length : Nat) : Int) = (pre.length : Int) + 1 by simp] at this
      rw [this]
      simp only [psumL]
      congr 1
      omega

theorem pix_in {n k K : Nat} (hkK : k ≤ K) (hK : K ≤ 64) : ∀ (nn d s : Nat) (at0 : Int), s + d ≤ k + 1 → d < nn → 0 ≤ at0 → at0 ≤ 1099511627776 →
    Rc.pindex.loop17 N nn k ((s + d : Nat) : Int) (tabL (cnt n) K) (at0 + bs n k s) s = some (at0 + bs n k (s + d))
  | 0, d, s, at0, _, h, _, _ => by omega
  | nn + 1, d, s, at0, hd, h, a0, a1 => by
    unfold Rc.pindex.loop17
    simp only [br_dec, chkL_same, chkI_same]
    rcases d with _ | d
    · rw [if_neg (by omega)]; rfl
    · have tl := tabL_len (cnt n) K
      have sm := cnt_small n (k - s)
      have hb0 := bs_nonneg n k s
      have hbb : bs n k s ≤ s * 8589934592 := by
        have : ∀ s, bs n k s ≤ s * 8589934592 := by
          intro s
          induction s with
          | zero => simp [bs]
          | succ s ih =>
            have : both n k s ≤ 8589934592 := by
              unfold both
              have := cnt_small n k
              have := cnt_small n (k - s)
              split <;> omega
            show bs n k s + both n k s ≤ _
            omega
        exact this s
      have e2 : IntKind.i64.wrap ((k : Int) - (s : Int)) = ((k - s : Nat) : Int) := by rw [i64 (by omega) (by omega)]; omega
      have ih := pix_in (n := n) hkK hK nn d (s + 1) at0 (by omega) (by omega) a0 a1
      rw [show s + 1 + d = s + (d + 1) by omega] at ih
      have hb : bs n k (s + 1) = bs n k s + both n k s := rfl
      rw [if_pos (by omega), e2, chk_pos (by omega), Int.toNat_natCast, tabL_get _ (by omega), i64 (x := (s : Int) + 1) (by omega) (by omega), i64 (x := at0 + bs n k s + cnt n (k - s)) (by omega) (by omega)]
      by_cases c : s = 0
      · have hbo : both n k s = cnt n (k - s) := by unfold both; rw [if_pos c, c]; rfl
        rw [if_neg (by omega), show at0 + bs n k s + cnt n (k - s) = at0 + bs n k (s + 1) by omega]
        exact ih
      · have hbo : both n k s = 2 * cnt n (k - s) := by unfold both; rw [if_neg c]
        rw [if_pos (by omega), chk_pos (by omega), i64 (x := at0 + bs n k s + cnt n (k - s) + cnt n (k - s)) (by omega) (by omega), show at0 + bs n k s + cnt n (k - s) + cnt n (k - s) = at0 + bs n k (s + 1) by omega]
        exact ih

theorem pix_loop {y : List Int} {K : Nat} (hl : y.length ≤ 16) (hK : K ≤ 64) (hN : 3000 ≤ N) : ∀ (nn : Nat) (r pre : List Int) (k : Nat) (at0 : Int), y = pre ++ r → r.length < nn → sz1 r = k → k ≤ K → cnt r.length k < 4294967296 → (∀ x ∈ r, x.natAbs ≤ 64) → (True → 0 ≤ at0 ∧ at0 ≤ (pre.length : Int) * 4294967296) →
    Rc.pindex.loop13 N nn y.length y y (tabR y.length K) at0 k pre.length = some (at0 + ix r k)
  | 0, r, pre, k, at0, _, h, _, _, _, _, _ => by omega
  | nn + 1, r, pre, k, at0, hy, h, hk, hkK, hu, hs, a01 => by
    obtain ⟨a0, a1⟩ := a01 trivial
    unfold Rc.pindex.loop13
    simp only [br_dec, chkL_same, chkI_same, chkR_same]
    have hlen : y.length = pre.length + r.length := by rw [hy, List.length_append]
    cases r with
    | nil => rw [if_neg (by simp at hlen; omega)]; simp [ix]
    | cons x r =>
      simp only [List.length_cons] at hlen h hu
      rw [sz1_cons] at hk
      have hx := hs x (by simp)
      have hp : psz x = (x.natAbs : Int) := by unfold psz; rw [if_neg (by omega)]
      have hg : y.getD pre.length 0 = x := by rw [hy, get_at]
      have tr := tabR_len y.length K
      have tl := tabL_len (cnt r.length) K
      have e1 : IntKind.i64.wrap (IntKind.i64.wrap ((y.length : Int) - 1) - (pre.length : Int)) = (r.length : Int) := by
        rw [i64 (x := (y.length : Int) - 1) (by omega) (by omega), i64 (by omega) (by omega)]; omega
      have hun := un_nk hu (show k - x.natAbs ≤ k by omega)
      have hall := bs_all hu
      have hbm := bs_mono r.length k (show x.natAbs ≤ k + 1 by omega)
      have hb0 := bs_nonneg r.length k x.natAbs
      have hin := pix_in (N := N) (n := r.length) hkK hK N x.natAbs 0 at0 (by omega) (by omega) a0 (by omega)
      rw [Nat.zero_add, show bs r.length k 0 = 0 from rfl, Int.add_zero, show ((0 : Nat) : Int) = 0 from rfl] at hin
      have e2 : IntKind.i64.wrap ((k : Int) - (x.natAbs : Int)) = ((k - x.natAbs : Nat) : Int) := by rw [i64 (by omega) (by omega)]; omega
      have sm := cnt_small r.length (k - x.natAbs)
      obtain ⟨i0, i1, _⟩ := ix_spec (x :: r) k (by rw [sz1_cons]; exact hk) hu
      obtain ⟨j0, j1, _⟩ := ix_spec r (k - x.natAbs) (by omega) hun
      rw [if_pos (by omega), chk_pos (by omega), e1, chk_pos (by omega), Int.toNat_natCast, Int.toNat_natCast, hg, psize_F, obind_of, tabR_get (by omega), hp, hin, obind_of, obind_of, e2, i64 (x := (pre.length : Int) + 1) (by omega) (by omega)]
      simp only [List.length_cons] at i1
      simp only [ix] at i0 i1 ⊢
      have next := fun (v : Int) (h0 : 0 ≤ v) (h1 : v ≤ at0 + 4294967296) => pix_loop hl hK hN nn r (pre ++ [x]) (k - x.natAbs) v (by rw [hy]; simp) (by omega) (by omega) (by omega) hun (fun z hz => hs z (by simp [hz])) (fun _ => ⟨h0, by simp; omega⟩)
      simp only [List.length_append, List.length_singleton, Int.natCast_add] at next
      by_cases c : x < 0
      · rw [if_pos c] at i0 i1 ⊢
        rw [if_pos c, chk_pos (by omega), Int.toNat_natCast, tabL_get _ (by omega), i64 (x := at0 + bs r.length k x.natAbs + cnt r.length (k - x.natAbs)) (by omega) (by omega)]
        refine (next _ (by omega) (by omega)).trans ?_
        congr 1
        omega
      · rw [if_neg c] at i0 i1 ⊢
        rw [if_neg c]
        refine (next _ (by omega) (by omega)).trans ?_
        congr 1
        omega
theorem pindex_F (y : List Int) (hN : 3000 ≤ N) : Rc.pindex.F N y = some (if 1 ≤ y.length ∧ y.length ≤ 16 ∧ psumL y ≤ mostT y.length then (psumL y, ix y (sz1 y), 0) else (0, 0, 1)) := by
  unfold Rc.pindex.F
  rw [pmay_F, obind_of]
  simp only [br_not_dec, br_dec]
  by_cases c1 : ¬ (1 ≤ (y.length : Int) ∧ (y.length : Int) ≤ 16)
  · rw [if_neg c1, if_neg (fun h => by omega)]
  have c1 : 1 ≤ (y.length : Int) ∧ (y.length : Int) ≤ 16 := by omega
  have h5 := psum_loop (N := N) (y := y) (by omega) N y [] 0 rfl (by omega) (by omega) (by simp)
  rw [show (([] : List Int).length : Int) = 0 from rfl, Int.zero_add] at h5
  rw [if_pos c1, h5, obind_of, pmost_F _ hN, obind_of]
  by_cases c2 : psumL y > mostT y.length
  · rw [if_pos c2, if_neg (fun h => by omega)]
  have hm := mostT_range y.length
  obtain ⟨s1, s2⟩ := psum_small y (by omega)
  have hu := un_most (n := y.length) (k := sz1 y) (by omega) (by omega) (by omega)
  have h13 := pix_loop (N := N) (y := y) (K := sz1 y) (by omega) (by omega) hN N y [] (sz1 y) 0 rfl (by omega) rfl (Nat.le_refl _) hu s2 (fun _ => ⟨by omega, by simp⟩)
  rw [show (([] : List Int).length : Int) = 0 from rfl, Int.zero_add] at h13
  rw [if_neg c2, if_pos ⟨by omega, by omega, by omega⟩, s1, table_F (by omega) (by omega) hN, obind_of, h13, obind_of]

/-! ### The twin's -/
theorem qsize_F {v : Int} (h0 : -9223372036854775808 < v) (h1 : v < 9223372036854775808) : Rc.qsize.F N v = some (v.natAbs : Int) := by
  unfold Rc.qsize.F
  rw [br_dec]
  by_cases c : v < 0
  · rw [if_pos c, i64 (by omega) (by omega)]
    refine congrArg some ?_
    show (0 - v : Int) = _
    omega
  · rw [if_neg c]
    refine congrArg some ?_
    show (v : Int) = _
    omega

def All1000 : List Int → Bool
  | [] => true
  | x :: r => decide (-1000 ≤ x ∧ x ≤ 1000) && All1000 r
def qs (y : List Int) : Int := if y.length < 1 ∨ y.length > 16 then -1 else if All1000 y = true then sz1 y else -1

theorem qsum_loop {y e : List Int} (hl : y.length ≤ 16) (s2 : Int) : ∀ (nn : Nat) (r pre : List Int) (s : Int), y = pre ++ r → r.length < nn → 0 ≤ s → s ≤ 1000 * pre.length →
    Rc.qsum.loop5 N nn e y s2 s pre.length = some (if All1000 r = true then .inl (s2, s + sz1 r) else .inr (-1))
  | 0, r, pre, s, _, h, _, _ => by omega
  | nn + 1, r, pre, s, hy, h, s0, s1 => by
    unfold Rc.qsum.loop5
    simp only [br_dec, chkL_same]
    have hlen : y.length = pre.length + r.length := by rw [hy, List.length_append]
    cases r with
    | nil => rw [if_neg (by simp at hlen; omega)]; simp [All1000, sz1]
    | cons x r =>
      simp only [List.length_cons] at hlen h
      have hg : y.getD pre.length 0 = x := by rw [hy, get_at]
      rw [if_pos (by omega), chk_pos (by omega), Int.toNat_natCast, hg]
      by_cases c1 : x > 1000
      · rw [if_pos c1]
        have : All1000 (x :: r) = false := by simp only [All1000]; rw [decide_eq_false (by omega)]; rfl
        rw [this]; rfl
      rw [if_neg c1, chk_pos (by omega)]
      by_cases c2 : x < -1000
      · rw [if_pos c2]
        have : All1000 (x :: r) = false := by simp only [All1000]; rw [decide_eq_false (by omega)]; rfl
        rw [this]; rfl
      rw [if_neg c2, chk_pos (by omega), qsize_F (by omega) (by omega), obind_of, i64 (x := s + (x.natAbs : Int)) (by omega) (by omega), i64 (x := (pre.length : Int) + 1) (by omega) (by omega)]
      have := qsum_loop (e := e) hl s2 nn r (pre ++ [x]) (s + x.natAbs) (by rw [hy]; simp) (by omega) (by omega) (by simp; omega)
      rw [show (((pre ++ [x]).length : Nat) : Int) = (pre.length : Int) + 1 by simp] at this
      rw [this]
      have ha : All1000 (x :: r) = All1000 r := by simp only [All1000]; rw [decide_eq_true (by omega), Bool.true_and]
      rw [ha, sz1_cons]
      rw [show s + (x.natAbs : Int) + (sz1 r : Int) = s + ((x.natAbs + sz1 r : Nat) : Int) by omega]

theorem qsum_F (y : List Int) (hN : 3000 ≤ N) : Rc.qsum.F N y = some (qs y) := by
  unfold Rc.qsum.F qs
  simp only [br_dec]
  by_cases c1 : y.length < 1
  · rw [if_pos (by omega), if_pos (Or.inl c1)]
  by_cases c2 : y.length > 16
  · rw [if_neg (by omega), if_pos (by omega), if_pos (Or.inr c2)]
  have h := qsum_loop (N := N) (y := y) (e := y) (by omega) 0 N y [] 0 rfl (by omega) (by omega) (by simp)
  rw [show (([] : List Int).length : Int) = 0 from rfl, Int.zero_add] at h
  rw [if_neg (by omega), if_neg (by omega), if_neg (by omega), h]
  by_cases c3 : All1000 y = true
  · rw [if_pos c3, if_pos c3, osum_inl]
  · rw [if_neg c3, if_neg c3, osum_inr]

theorem all1000_of : ∀ y : List Int, (∀ x ∈ y, x.natAbs ≤ 64) → All1000 y = true
  | [], _ => rfl
  | x :: r, h => by
    have := h x (by simp)
    simp only [All1000]
    rw [decide_eq_true (by omega), all1000_of r fun z hz => h z (by simp [hz])]; rfl

theorem qix_in {n k : Nat} (hn : n ≤ 16) (hk : k ≤ 64) (hN : 3000 ≤ N) : ∀ (nn d s : Nat) (at0 : Int), s + d ≤ k + 1 → d < nn → 0 ≤ at0 → at0 ≤ 1099511627776 →
    Rc.qindex.loop9 N nn k n ((s + d : Nat) : Int) (at0 + bs n k s) s = some (at0 + bs n k (s + d))
  | 0, d, s, at0, _, h, _, _ => by omega
  | nn + 1, d, s, at0, hd, h, a0, a1 => by
    unfold Rc.qindex.loop9
    simp only [br_dec, chkI_same]
    rcases d with _ | d
    · rw [if_neg (by omega)]; rfl
    · have sm := cnt_small n (k - s)
      have hb0 := bs_nonneg n k s
      have hbb : bs n k s ≤ s * 8589934592 := by
        have : ∀ s, bs n k s ≤ s * 8589934592 := by
          intro s
          induction s with
          | zero => simp [bs]
          | succ s ih =>
            have : both n k s ≤ 8589934592 := by
              unfold both
              have := cnt_small n k
              have := cnt_small n (k - s)
              split <;> omega
            show bs n k s + both n k s ≤ _
            omega
        exact this s
      have e2 : IntKind.i64.wrap ((k : Int) - (s : Int)) = ((k - s : Nat) : Int) := by rw [i64 (by omega) (by omega)]; omega
      have ih := qix_in hn hk hN nn d (s + 1) at0 (by omega) (by omega) a0 a1
      rw [show s + 1 + d = s + (d + 1) by omega] at ih
      have hb : bs n k (s + 1) = bs n k s + both n k s := rfl
      rw [if_pos (by omega), e2, qrest_F hn (by omega) hN, obind_of, i64 (x := (s : Int) + 1) (by omega) (by omega), i64 (x := at0 + bs n k s + cnt n (k - s)) (by omega) (by omega)]
      by_cases c : s = 0
      · have hbo : both n k s = cnt n (k - s) := by unfold both; rw [if_pos c, c]; rfl
        rw [if_neg (by omega), show at0 + bs n k s + cnt n (k - s) = at0 + bs n k (s + 1) by omega]
        exact ih
      · have hbo : both n k s = 2 * cnt n (k - s) := by unfold both; rw [if_neg c]
        rw [if_pos (by omega), obind_of, i64 (x := at0 + bs n k s + cnt n (k - s) + cnt n (k - s)) (by omega) (by omega), show at0 + bs n k s + cnt n (k - s) + cnt n (k - s) = at0 + bs n k (s + 1) by omega]
        exact ih

theorem qix_loop {y : List Int} (hl : y.length ≤ 16) (hN : 3000 ≤ N) : ∀ (nn : Nat) (r pre : List Int) (k : Nat) (at0 : Int), y = pre ++ r → r.length < nn → sz1 r = k → k ≤ 64 → cnt r.length k < 4294967296 → (∀ x ∈ r, x.natAbs ≤ 64) → (True → 0 ≤ at0 ∧ at0 ≤ (pre.length : Int) * 4294967296) →
    Rc.qindex.loop4 N nn y k at0 pre.length = some (at0 + ix r k)
  | 0, r, pre, k, at0, _, h, _, _, _, _, _ => by omega
  | nn + 1, r, pre, k, at0, hy, h, hk, hkK, hu, hs, a01 => by
    obtain ⟨a0, a1⟩ := a01 trivial
    unfold Rc.qindex.loop4
    simp only [br_dec, chkL_same, chkI_same]
    have hlen : y.length = pre.length + r.length := by rw [hy, List.length_append]
    cases r with
    | nil => rw [if_neg (by simp at hlen; omega)]; simp [ix]
    | cons x r =>
      simp only [List.length_cons] at hlen h hu
      rw [sz1_cons] at hk
      have hx := hs x (by simp)
      have hg : y.getD pre.length 0 = x := by rw [hy, get_at]
      have e1 : IntKind.i64.wrap (IntKind.i64.wrap ((y.length : Int) - (pre.length : Int)) - 1) = (r.length : Int) := by
        rw [i64 (x := (y.length : Int) - (pre.length : Int)) (by omega) (by omega), i64 (by omega) (by omega)]; omega
      have hun := un_nk hu (show k - x.natAbs ≤ k by omega)
      have hall := bs_all hu
      have hbm := bs_mono r.length k (show x.natAbs ≤ k + 1 by omega)
      have hb0 := bs_nonneg r.length k x.natAbs
      have hin := qix_in (N := N) (n := r.length) (k := k) (by omega) hkK hN N x.natAbs 0 at0 (by omega) (by omega) a0 (by omega)
      rw [Nat.zero_add, show bs r.length k 0 = 0 from rfl, Int.add_zero, show ((0 : Nat) : Int) = 0 from rfl] at hin
      have e2 : IntKind.i64.wrap ((k : Int) - (x.natAbs : Int)) = ((k - x.natAbs : Nat) : Int) := by rw [i64 (by omega) (by omega)]; omega
      have sm := cnt_small r.length (k - x.natAbs)
      obtain ⟨i0, i1, _⟩ := ix_spec (x :: r) k (by rw [sz1_cons]; exact hk) hu
      obtain ⟨j0, j1, _⟩ := ix_spec r (k - x.natAbs) (by omega) hun
      rw [if_pos (by omega), chk_pos (by omega), Int.toNat_natCast, hg, qsize_F (by omega) (by omega), obind_of, e1, hin, obind_of, chk_pos (by omega), e2, i64 (x := (pre.length : Int) + 1) (by omega) (by omega)]
      simp only [List.length_cons] at i1
      simp only [ix] at i0 i1 ⊢
      have next := fun (v : Int) (h0 : 0 ≤ v) (h1 : v ≤ at0 + 4294967296) => qix_loop hl hN nn r (pre ++ [x]) (k - x.natAbs) v (by rw [hy]; simp) (by omega) (by omega) (by omega) hun (fun z hz => hs z (by simp [hz])) (fun _ => ⟨h0, by simp; omega⟩)
      simp only [List.length_append, List.length_singleton, Int.natCast_add] at next
      by_cases c : x < 0
      · rw [if_pos c] at i0 i1 ⊢
        rw [if_pos c, qrest_F (by omega) (by omega) hN, obind_of, i64 (x := at0 + bs r.length k x.natAbs + cnt r.length (k - x.natAbs)) (by omega) (by omega)]
        refine (next _ (by omega) (by omega)).trans ?_
        congr 1
        omega
      · rw [if_neg c] at i0 i1 ⊢
        rw [if_neg c]
        refine (next _ (by omega) (by omega)).trans ?_
        congr 1
        omega
/-- A sum that may be. -/
theorem qs_ok {y : List Int} (h0 : 0 ≤ qs y) (h1 : qs y ≤ mostT y.length) : 1 ≤ y.length ∧ y.length ≤ 16 ∧ qs y = sz1 y ∧ sz1 y ≤ 64 ∧ psumL y = sz1 y ∧ ∀ x ∈ y, x.natAbs ≤ 64 := by
  have hm := mostT_range y.length
  unfold qs at h0 h1 ⊢
  by_cases c : y.length < 1 ∨ y.length > 16
  · rw [if_pos c] at h0; omega
  rw [if_neg c] at h0 h1 ⊢
  by_cases c2 : All1000 y = true
  · rw [if_pos c2] at h0 h1 ⊢
    obtain ⟨s1, s2⟩ := sz1_small y (by omega)
    exact ⟨by omega, by omega, rfl, by omega, s1, s2⟩
  · rw [if_neg c2] at h0; omega
theorem qs_not {y : List Int} (h : qs y < 0 ∨ qs y > mostT y.length) : ¬ (1 ≤ y.length ∧ y.length ≤ 16 ∧ psumL y ≤ mostT y.length) := by
  rintro ⟨h1, h2, h3⟩
  have hm := mostT_range y.length
  obtain ⟨s1, s2⟩ := psum_small y (by omega)
  unfold qs at h
  rw [if_neg (by omega), if_pos (all1000_of y s2)] at h
  omega

theorem qindex_F {y : List Int} (h0 : 0 ≤ qs y) (h1 : qs y ≤ mostT y.length) (hN : 3000 ≤ N) : Rc.qindex.F N y = some (ix y (sz1 y)) := by
  obtain ⟨g1, g2, g3, g4, g5, g6⟩ := qs_ok h0 h1
  unfold Rc.qindex.F
  have hu := un_most (n := y.length) (k := sz1 y) (by omega) (by omega) (by omega)
  have h := qix_loop (N := N) (y := y) (by omega) hN N y [] (sz1 y) 0 rfl (by omega) rfl g4 hu g6 (fun _ => ⟨by omega, by simp⟩)
  rw [show (([] : List Int).length : Int) = 0 from rfl, Int.zero_add] at h
  rw [qsum_F _ hN, obind_of, g3, h, obind_of]

/-- A vector of a place: what Index tells of it. -/
theorem pindex_vec {n k i : Int} (hv : VOk n k i) (hN : 3000 ≤ N) : Rc.pindex.F N (vec n.toNat k.toNat i) = some (k, i, 0) := by
  obtain ⟨u1, u2, u3⟩ := hv.un
  have hv' := hv
  obtain ⟨c1, c2, c3, c4, c5, c6⟩ := hv
  obtain ⟨v1, v2, v3⟩ := vec_spec n.toNat k.toNat i c5 (by omega) u2
  obtain ⟨s1, s2⟩ := sz1_small (vec n.toNat k.toNat i) (by omega)
  rw [pindex_F _ hN, v1, v2, v3, s1, v2, if_pos]
  · rw [show ((k.toNat : Nat) : Int) = k by omega]
  · rw [show ((n.toNat : Nat) : Int) = n by omega]; omega

theorem numbers_tail (n k i : Int) (hN : 3000 ≤ N) : (obind (Rc.pvector.F (N) (n) (k) (i)) fun r3 =>
      (br (decide (n < (1 : Int)))
      (br (r3.fst == (1 : Int))
      (some ((r3.snd.length : Int) == (0 : Int)))
      (some (false)))
      (br (decide (n > (16 : Int)))
      (br (r3.fst == (1 : Int))
      (some ((r3.snd.length : Int) == (0 : Int)))
      (some (false)))
      (br (decide (k < (0 : Int)))
      (br (r3.fst == (1 : Int))
      (some ((r3.snd.length : Int) == (0 : Int)))
      (some (false)))
      (obind (Rc.qmost.F (N) (n)) fun r4 =>
      (br (decide (k > r4))
      (br (r3.fst == (1 : Int))
      (some ((r3.snd.length : Int) == (0 : Int)))
      (some (false)))
      (br (decide (i < (0 : Int)))
      (br (r3.fst == (1 : Int))
      (some ((r3.snd.length : Int) == (0 : Int)))
      (some (false)))
      (obind (Rc.qcount.F (N) (n) (k)) fun r5 =>
      (br (decide (i ≥ r5))
      (br (r3.fst == (1 : Int))
      (some ((r3.snd.length : Int) == (0 : Int)))
      (some (false)))
      (obind (Rc.pindex.F (N) (r3.snd)) fun r6 =>
      (br (r3.fst == (0 : Int))
      (obind (Rc.qvector.F (N) (n) (k) (i)) fun r7 =>
      (obind (Rc.same17.F (N) (r3.snd) (r7)) fun r8 =>
      (br (r8)
      (br (r6.snd.snd == (0 : Int))
      (br (r6.fst == k)
      (some (r6.snd.fst == i))
      (some (false)))
      (some (false)))
      (some (false)))))
      (some (false))))))))))))) = some true := by
  simp only [br_dec, br_beq]
  rw [pvector_F _ _ _ hN, obind_of]
  by_cases hv : VOk n k i
  · obtain ⟨u1, u2, u3⟩ := hv.un
    have hv' := hv
    obtain ⟨c1, c2, c3, c4, c5, c6⟩ := hv'
    obtain ⟨v1, v2, v3⟩ := vec_spec n.toNat k.toNat i c5 (by omega) u2
    simp only [if_pos hv]
    rw [if_neg (by omega), if_neg (by omega), if_neg (by omega), qmost_F, obind_of, if_neg (by omega), if_neg (by omega), qcount_F _ _ hN, obind_of, if_neg (by omega), pindex_vec hv hN, obind_of, if_pos rfl, qvector_F hv hN, obind_of, same17_F _ (by omega) (by omega), obind_of]
    simp [br]
  · simp only [if_neg hv]
    by_cases d1 : n < 1
    · rw [if_pos d1]; simp
    by_cases d2 : n > 16
    · rw [if_neg d1, if_pos d2]; simp
    by_cases d3 : k < 0
    · rw [if_neg d1, if_neg d2, if_pos d3]; simp
    rw [if_neg d1, if_neg d2, if_neg d3, qmost_F, obind_of]
    by_cases d4 : k > mostT n
    · rw [if_pos d4]; simp
    by_cases d5 : i < 0
    · rw [if_neg d4, if_pos d5]; simp
    rw [if_neg d4, if_neg d5, qcount_F _ _ hN, obind_of]
    by_cases d6 : i ≥ cntA n k
    · rw [if_pos d6]; simp
    · exact absurd ⟨by omega, by omega, by omega, by omega, by omega, by omega⟩ hv

theorem pvqNumbers_pure (y : List Int) (n k i : Int) : ∃ N, Rc.pvqNumbers.F N y n k i = some true := by
  refine ⟨3000, ?_⟩
  unfold Rc.pvqNumbers.F
  simp only [numbers_tail n k i (show 3000 ≤ 3000 by omega)]
  rw [awake17_F (by omega), obind_of]
  simp only [br_not, if_true, br_dec, br_bne, List.nil_append, List.length_nil, Nat.zero_add]
  by_cases k1 : y.length > 100
  · rw [if_pos (by omega)]
  rw [if_neg (by omega), qsum_F _ (by omega), obind_of, chk_pos (by omega), pindex_F _ (by omega), obind_of]
  by_cases k2 : qs y < 0
  · rw [if_neg (qs_not (Or.inl k2)), if_pos k2]
    simp
  rw [if_neg k2, qmost_F, obind_of]
  by_cases k3 : qs y > mostT y.length
  · rw [if_neg (qs_not (Or.inr k3)), if_pos k3]
    simp
  obtain ⟨g1, g2, g3, g4, g5, g6⟩ := qs_ok (y := y) (by omega) (by omega)
  have hu := un_most (n := y.length) (k := sz1 y) (by omega) (by omega) (by omega)
  obtain ⟨i0, i1, i2⟩ := ix_spec y (sz1 y) rfl hu
  have hv : VOk (y.length : Int) (sz1 y : Int) (ix y (sz1 y)) := by
    refine ⟨by omega, by omega, by omega, by omega, i0, ?_⟩
    unfold cntA
    rw [if_pos (by omega), Int.toNat_natCast, Int.toNat_natCast]
    exact i1
  rw [if_pos (show 1 ≤ y.length ∧ y.length ≤ 16 ∧ psumL y ≤ mostT y.length by omega), if_neg k3]
  simp only
  rw [g5, pvector_F _ _ _ (by omega), obind_of, if_pos hv, Int.toNat_natCast, Int.toNat_natCast, i2, qindex_F (y := y) (by omega) (by omega) (by omega), obind_of, g3]
  simp only [if_true]
  rw [same17_F _ (by omega) (by omega), obind_of]
  simp

/-! ### Order -/
theorem rank_F {v : Int} (h : v.natAbs ≤ 64) : Rc.rank.F N v = some (rk v) := by
  unfold Rc.rank.F rk
  rw [br_dec]
  by_cases c : v > 0
  · rw [if_pos c, if_pos c, i64 (x := 2 * v) (by omega) (by omega), i64 (by omega) (by omega)]
  · rw [if_neg c, if_neg c, i64 (by omega) (by omega)]

theorem rk_inj {a b : Int} (h : rk a = rk b) : a = b := by
  unfold rk at h
  split at h <;> split at h <;> omega

theorem order_loop {n0 k0 a0 b0 : Int} {x y : List Int} {n p : Nat} (hx : x.length = n) (hy : y.length = n) (hp : p < n) (hn : n ≤ 16) (h1 : ∀ q, q < p → x.getD q 0 = y.getD q 0) (h2 : rk (x.getD p 0) < rk (y.getD p 0)) (hxs : ∀ q, q < n → (x.getD q 0).natAbs ≤ 64) (hys : ∀ q, q < n → (y.getD q 0).natAbs ≤ 64) (s : Bool) :
    ∀ (nn q : Nat), q ≤ p → p - q < nn → Rc.pvqOrder.loop8 N n0 k0 a0 b0 nn n x y q s = some (.inr true)
  | 0, q, _, h => by omega
  | nn + 1, q, hq, h => by
    unfold Rc.pvqOrder.loop8
    simp only [br_dec, br_bne, chkL_same, chkI_same]
    rw [if_pos (by omega), chk_pos (by omega), Int.toNat_natCast, rank_F (hxs q (by omega)), obind_of, chk_pos (by omega), rank_F (hys q (by omega)), obind_of]
    rcases Nat.lt_or_ge q p with c | c
    · rw [h1 q c, if_pos rfl, i64 (by omega) (by omega)]
      exact order_loop hx hy hp hn h1 h2 hxs hys s nn (q + 1) (by omega) (by omega)
    · obtain rfl : q = p := by omega
      rw [if_neg (by omega), decide_eq_true h2]
      rfl

theorem getD_small {y : List Int} (h : ∀ x ∈ y, x.natAbs ≤ 64) (q : Nat) : (y.getD q 0).natAbs ≤ 64 := by
  rw [List.getD_eq_getElem?_getD]
  cases hq : y[q]? with
  | none => simp
  | some x => exact h x (List.mem_of_getElem? hq)

theorem pvqOrder_pure (n k a b : Int) : ∃ N, Rc.pvqOrder.F N n k a b = some true := by
  refine ⟨3000, ?_⟩
  unfold Rc.pvqOrder.F
  rw [awake17_F (by omega), obind_of]
  simp only [br_not, if_true, br_dec, br_bne]
  rw [pvector_F _ _ _ (by omega), obind_of, pvector_F _ _ _ (by omega), obind_of]
  by_cases c1 : ¬ VOk n k a
  · rw [if_neg c1, if_neg (by omega)]
  have c1 : VOk n k a := Decidable.not_not.1 c1
  rw [if_pos c1]
  by_cases c2 : ¬ VOk n k b
  · rw [if_neg c2]; simp
  have c2 : VOk n k b := Decidable.not_not.1 c2
  rw [if_pos c2]
  simp only [if_true]
  by_cases c3 : a ≥ b
  · rw [if_pos c3]
  obtain ⟨u1, u2, u3⟩ := c1.un
  obtain ⟨v1, v2, v3⟩ := vec_spec n.toNat k.toNat a c1.2.2.2.2.1 (by have := c1.2.2.2.2.2; omega) u2
  obtain ⟨w1, w2, w3⟩ := vec_spec n.toNat k.toNat b c2.2.2.2.2.1 (by have := c2.2.2.2.2.2; omega) u2
  obtain ⟨p, p1, p2, p3⟩ := vec_order n.toNat k.toNat a b c1.2.2.2.2.1 (by omega) (by have := c2.2.2.2.2.2; omega) u2
  have hn := c1.2.1
  have hn0 := c1.1
  have h := order_loop (N := 3000) (n0 := n) (k0 := k) (a0 := a) (b0 := b) v1 w1 p1 (by omega) p2 p3 (fun q _ => getD_small (sz1_small _ (by omega)).2 q) (fun q _ => getD_small (sz1_small _ (by omega)).2 q) false 3000 0 (by omega) (by omega)
  rw [show ((n.toNat : Nat) : Int) = n by omega, show ((0 : Nat) : Int) = 0 from rfl] at h
  rw [if_neg c3, h, osum_inr]

/-! ### The first and the last -/
theorem pvqFirst_pure (n k : Int) : ∃ N, Rc.pvqFirst.F N n k = some true := by
  refine ⟨3000, ?_⟩
  unfold Rc.pvqFirst.F
  rw [awake17_F (by omega), obind_of]
  simp only [br_not, if_true, br_dec, br_bne]
  by_cases c1 : n < 1
  · rw [if_pos c1]
  by_cases c2 : n > 16
  · rw [if_neg c1, if_pos c2]
  by_cases c3 : k < 0
  · rw [if_neg c1, if_neg c2, if_pos c3]
  rw [if_neg c1, if_neg c2, if_neg c3, pmost_F _ (by omega), obind_of]
  by_cases c4 : k > mostT n
  · rw [if_pos c4]
  have hm := mostT_range n
  obtain ⟨m, rfl⟩ : ∃ m : Nat, n = ((m + 1 : Nat) : Int) := ⟨(n - 1).toNat, by omega⟩
  obtain ⟨j, rfl⟩ := Int.eq_ofNat_of_zero_le (show 0 ≤ k by omega)
  have hu := un_most (n := m + 1) (k := j) (by omega) (by omega) (by omega)
  have hpos := cnt_pos m j
  have hA : cntA ((m + 1 : Nat) : Int) (j : Int) = cnt (m + 1) j := by unfold cntA; rw [if_pos (by omega), Int.toNat_natCast, Int.toNat_natCast]
  have v0 : VOk ((m + 1 : Nat) : Int) (j : Int) 0 := ⟨by omega, by omega, by omega, by omega, by omega, by rw [hA]; omega⟩
  have v1 : VOk ((m + 1 : Nat) : Int) (j : Int) (cnt (m + 1) j - 1) := ⟨by omega, by omega, by omega, by omega, by omega, by rw [hA]; omega⟩
  -- the first
  obtain ⟨f1, f2⟩ := ix_first j m
  have fl : (List.replicate m (0 : Int) ++ [(j : Int)]).length = m + 1 := by simp
  have hf := (ix_spec (List.replicate m (0 : Int) ++ [(j : Int)]) j f2 (by rw [fl]; exact hu)).2.2
  rw [fl, f1] at hf
  -- the last
  have lz := sz1_zeros m
  have iz := ix_zeros m
  have lsz : sz1 (-(j : Int) :: List.replicate m 0) = j := by rw [sz1_cons, lz]; omega
  have lix : ix (-(j : Int) :: List.replicate m 0) j = cnt (m + 1) j - 1 := by
    have hall := bs_all hu
    have hb : bs m j (j + 1) = bs m j j + both m j j := rfl
    simp only [ix, List.length_replicate, Int.natAbs_neg, Int.natAbs_natCast, Nat.sub_self, cnt_zero]
    rw [iz]
    by_cases c : j = 0
    · subst c
      have : both m 0 0 = 1 := cnt_zero m
      rw [if_neg (by omega)]
      have : bs m 0 0 = 0 := rfl
      omega
    · have : both m j j = 2 * cnt m (j - j) := by unfold both; rw [if_neg c]
      rw [Nat.sub_self, cnt_zero] at this
      rw [if_pos (by omega)]
      omega
  have ll : (-(j : Int) :: List.replicate m 0).length = m + 1 := by simp
  have hl := (ix_spec (-(j : Int) :: List.replicate m 0) j lsz (by rw [ll]; exact hu)).2.2
  rw [ll, lix] at hl
  have r0 : (List.replicate (m + 1) (0 : Int)).set 0 (-(j : Int)) = -(j : Int) :: List.replicate m 0 := by rw [List.replicate_succ]; rfl
  have r1 : (List.replicate (m + 1) (0 : Int)).set m (j : Int) = List.replicate m (0 : Int) ++ [(j : Int)] := by
    have h := set_at (List.replicate m (0 : Int)) 0 (j : Int) []
    rw [List.length_replicate] at h
    rw [← h]
    congr 1
    rw [← List.replicate_one (a := (0 : Int)), List.replicate_append_replicate]
  rw [if_neg c4, pcount_F _ _ (by omega), obind_of, hA, i64 (x := cnt (m + 1) j - 1) (by omega) (by omega), pvector_F _ _ _ (by omega), obind_of, if_pos v0, pvector_F _ _ _ (by omega), obind_of, if_pos v1]
  simp only [if_true, Int.toNat_natCast]
  rw [hf, hl, chk_pos (by omega), chk_pos (by omega), i64 (x := ((m + 1 : Nat) : Int) - 1) (by omega) (by omega), chk_pos (by rw [List.length_replicate]; omega), chk_pos (by rw [List.length_replicate]; omega), show (((m + 1 : Nat) : Int) - 1).toNat = m by omega, show Int.toNat (0 : Int) = 0 from rfl, i64 (x := 0 - (j : Int)) (by omega) (by omega), show (0 : Int) - j = -(j : Int) by omega, r0, r1, same17_F _ (by simp; omega) (by simp; omega), obind_of]
  simp only [br_true]
  rw [same17_F _ (by simp; omega) (by simp; omega), obind_of]
  simp only [br_true]
  by_cases c5 : (j : Int) > 0
  · rw [if_pos c5]
  · rw [if_neg c5]
    obtain rfl : j = 0 := by omega
    rw [cnt_zero]
    rfl
end
end Go.Pl
