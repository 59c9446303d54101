/-
  Layer 17: places of vectors by the program and its twin; the statements PvqNumbers, PvqOrder, PvqFirst.
  Conditions: none.
-/
import Derived.Test.YtghbobmkkbdhpaaPlPvq3
set_option linter.unusedSimpArgs false
set_option linter.unusedVariables false
namespace Go.Pl
open Go.Eng Go.Proofs
set_option maxRecDepth 100000

def psz (v : Int) : Int := if v < -65 ∨ v > 65 then 65 else v.natAbs
theorem psz_range (v : Int) : 0 ≤ psz v ∧ psz v ≤ 65 := by unfold psz; split <;> omega
def psumL : List Int → Int
  | [] => 0
  | x :: r => psz x + psumL r
theorem psum_range : ∀ y : List Int, 0 ≤ psumL y ∧ psumL y ≤ 65 * y.length
  | [] => by simp [psumL]
  | x :: r => by have := psum_range r; have := psz_range x; simp only [psumL, List.length_cons]; omega
theorem sz1_cons (x : Int) (r : List Int) : sz1 (x :: r) = x.natAbs + sz1 r := by simp [sz1]
theorem psum_small : ∀ y : List Int, psumL y ≤ 64 → psumL y = sz1 y ∧ ∀ x ∈ y, x.natAbs ≤ 64
  | [], _ => ⟨rfl, by simp⟩
  | x :: r, h => by
    have h1 := psum_range r
    have h2 := psz_range x
    simp only [psumL] at h
    obtain ⟨i1, i2⟩ := psum_small r (by omega)
    have hx : psz x = x.natAbs ∧ x.natAbs ≤ 64 := by
      unfold psz at h ⊢
      by_cases c : x < -65 ∨ x > 65
      · rw [if_pos c] at h; omega
      · rw [if_neg c] at h ⊢; omega
    refine ⟨by simp only [psumL, sz1_cons]; omega, fun z hz => ?_⟩
    rcases List.mem_cons.1 hz with rfl | hz
    · exact hx.2
    · exact i2 z hz
theorem sz1_small : ∀ y : List Int, sz1 y ≤ 64 → psumL y = sz1 y ∧ ∀ x ∈ y, x.natAbs ≤ 64
  | [], _ => ⟨rfl, by simp⟩
  | x :: r, h => by
    rw [sz1_cons] at h
    obtain ⟨i1, i2⟩ := sz1_small r (by omega)
    refine ⟨?_, fun z hz => ?_⟩
    · simp only [psumL, sz1_cons]
      unfold psz
      rw [if_neg (by omega)]
      omega
    · rcases List.mem_cons.1 hz with rfl | hz
      · omega
      · exact i2 z hz

theorem get_at (pre : List Int) (x : Int) (r : List Int) : (pre ++ x :: r).getD pre.length 0 = x := by simp [List.getD_eq_getElem?_getD]

section
variable {N : Nat}
theorem psize_F (v : Int) : Rc.psize.F N v = some (psz v) := by
  have hc : Rc.clamp.F N v (-65) 65 = some (if v < -65 then -65 else if v > 65 then 65 else v) := by
    unfold Rc.clamp.F
    simp only [br_dec]
    by_cases c1 : v < -65
    · rw [if_neg (by omega), if_pos c1, if_pos c1]
    by_cases c2 : v > 65
    · rw [if_neg (by omega), if_neg c1, if_pos c2, if_neg c1, if_pos c2]
    · rw [if_neg (by omega), if_neg c1, if_neg c2, if_neg c1, if_neg c2]
  unfold Rc.psize.F psz
  rw [hc, obind_of, obind_of]
  by_cases c1 : v < -65
  · rw [if_pos c1, if_pos (Or.inl c1), i64 (by omega) (by omega)]; rfl
  by_cases c2 : v > 65
  · rw [if_neg c1, if_pos c2, if_pos (Or.inr c2), i64 (by omega) (by omega)]; rfl
  · rw [if_neg c1, if_neg c2, if_neg (show ¬ (v < -65 ∨ v > 65) by omega), i64 (x := 0 - v) (by omega) (by omega)]
    refine congrArg some ?_
    show (if 0 - v > v then 0 - v else v : Int) = (v.natAbs : Int)
    by_cases c3 : 0 - v > v
    · rw [if_pos c3]; omega
    · rw [if_neg c3]; omega

theorem psum_loop {y : List Int} (hl : y.length ≤ 16) : ∀ (nn : Nat) (r pre : List Int) (s : Int), y = pre ++ r → r.length < nn → 0 ≤ s → s ≤ 65 * pre.length →
    Rc.pindex.loop5 N nn y.length y s pre.length = some (s + psumL r)
  | 0, r, pre, s, _, h, _, _ => by omega
  | nn + 1, r, pre, s, hy, h, s0, s1 => by
    unfold Rc.pindex.loop5
    simp only [br_dec, chkL_same, chkI_same]
    have hlen : y.length = pre.length + r.length := by rw [hy, List.length_append]
    cases r with
    | nil => rw [if_neg (by simp at hlen; omega)]; simp [psumL]
    | cons x r =>
      simp only [List.length_cons] at hlen h
      have hx := psz_range x
      have hg : y.getD pre.length 0 = x := by rw [hy, get_at]
      rw [if_pos (by omega), chk_pos (by omega), Int.toNat_natCast, hg, psize_F, obind_of, i64 (x := s + psz x) (by omega) (by omega), i64 (x := (pre.length : Int) + 1) (by omega) (by omega)]
      have := psum_loop hl nn r (pre ++ [x]) (s + psz x) (by rw [hy]; simp) (by omega) (by omega) (by simp; omega)
      rw [show (((pre ++ [x]).length : Nat) : Int) = (pre.length : Int) + 1 by simp] at this
      rw [this]
      simp only [psumL]
      congr 1
      omega

theorem pix_in {n k K : Nat} (hkK : k ≤ K) (hK : K ≤ 64) : ∀ (nn d s : Nat) (at0 : Int), s + d ≤ k + 1 → d < nn → 0 ≤ at0 → at0 ≤ 1099511627776 →
    Rc.pindex.loop17 N nn k ((s + d : Nat) : Int) (tabL (cnt n) K) (at0 + bs n k s) s = some (at0 + bs n k (s + d))
  | 0, d, s, at0, _, h, _, _ => by omega
  | nn + 1, d, s, at0, hd, h, a0, a1 => by
    unfold Rc.pindex.loop17
    simp only [br_dec, chkL_same, chkI_same]
    rcases d with _ | d
    · rw [if_neg (by omega)]; rfl
    · have tl := tabL_len (cnt n) K
      have sm := cnt_small n (k - s)
      have hb0 := bs_nonneg n k s
      have hbb : bs n k s ≤ s * 8589934592 := by
        have : ∀ s, bs n k s ≤ s * 8589934592 := by
          intro s
          induction s with
          | zero => simp [bs]
          | succ s ih =>
            have : both n k s ≤ 8589934592 := by
              unfold both
              have := cnt_small n k
              have := cnt_small n (k - s)
              split <;> omega
            show bs n k s + both n k s ≤ _
            omega
        exact this s
      have e2 : IntKind.i64.wrap ((k : Int) - (s : Int)) = ((k - s : Nat) : Int) := by rw [i64 (by omega) (by omega)]; omega
      have ih := pix_in (n := n) hkK hK nn d (s + 1) at0 (by omega) (by omega) a0 a1
      rw [show s + 1 + d = s + (d + 1) by omega] at ih
      have hb : bs n k (s + 1) = bs n k s + both n k s := rfl
      rw [if_pos (by omega), e2, chk_pos (by omega), Int.toNat_natCast, tabL_get _ (by omega), i64 (x := (s : Int) + 1) (by omega) (by omega), i64 (x := at0 + bs n k s + cnt n (k - s)) (by omega) (by omega)]
      by_cases c : s = 0
      · have hbo : both n k s = cnt n (k - s) := by unfold both; rw [if_pos c, c]; rfl
        rw [if_neg (by omega), show at0 + bs n k s + cnt n (k - s) = at0 + bs n k (s + 1) by omega]
        exact ih
      · have hbo : both n k s = 2 * cnt n (k - s) := by unfold both; rw [if_neg c]
        rw [if_pos (by omega), chk_pos (by omega), i64 (x := at0 + bs n k s + cnt n (k - s) + cnt n (k - s)) (by omega) (by omega), show at0 + bs n k s + cnt n (k - s) + cnt n (k - s) = at0 + bs n k (s + 1) by omega]
        exact ih

theorem pix_loop {y : List Int} {K : Nat} (hl : y.length ≤ 16) (hK : K ≤ 64) (hN : 3000 ≤ N) : ∀ (nn : Nat) (r pre : List Int) (k : Nat) (at0 : Int), y = pre ++ r → r.length < nn → sz1 r = k → k ≤ K → cnt r.length k < 4294967296 → (∀ x ∈ r, x.natAbs ≤ 64) → (True → 0 ≤ at0 ∧ at0 ≤ (pre.length : Int) * 4294967296) →
    Rc.pindex.loop13 N nn y.length y y (tabR y.length K) at0 k pre.length = some (at0 + ix r k)
  | 0, r, pre, k, at0, _, h, _, _, _, _, _ => by omega
  | nn + 1, r, pre, k, at0, hy, h, hk, hkK, hu, hs, a01 => by
    obtain ⟨a0, a1⟩ := a01 trivial
    unfold Rc.pindex.loop13
    simp only [br_dec, chkL_same, chkI_same, chkR_same]
    have hlen : y.length = pre.length + r.length := by rw [hy, List.length_append]
    cases r with
    | nil => rw [if_neg (by simp at hlen; omega)]; simp [ix]
    | cons x r =>
      simp only [List.length_cons] at hlen h hu
      rw [sz1_cons] at hk
      have hx := hs x (by simp)
      have hp : psz x = (x.natAbs : Int) := by unfold psz; rw [if_neg (by omega)]
      have hg : y.getD pre.length 0 = x := by rw [hy, get_at]
      have tr := tabR_len y.length K
      have tl := tabL_len (cnt r.length) K
      have e1 : IntKind.i64.wrap (IntKind.i64.wrap ((y.length : Int) - 1) - (pre.length : Int)) = (r.length : Int) := by
        rw [i64 (x := (y.length : Int) - 1) (by omega) (by omega), i64 (by omega) (by omega)]; omega
      have hun := un_nk hu (show k - x.natAbs ≤ k by omega)
      have hall := bs_all hu
      have hbm := bs_mono r.length k (show x.natAbs ≤ k + 1 by omega)
      have hb0 := bs_nonneg r.length k x.natAbs
      have hin := pix_in (N := N) (n := r.length) hkK hK N x.natAbs 0 at0 (by omega) (by omega) a0 (by omega)
      rw [Nat.zero_add, show bs r.length k 0 = 0 from rfl, Int.add_zero, show ((0 : Nat) : Int) = 0 from rfl] at hin
      have e2 : IntKind.i64.wrap ((k : Int) - (x.natAbs : Int)) = ((k - x.natAbs : Nat) : Int) := by rw [i64 (by omega) (by omega)]; omega
      have sm := cnt_small r.length (k - x.natAbs)
      obtain ⟨i0, i1, _⟩ := ix_spec (x :: r) k (by rw [sz1_cons]; exact hk) hu
      obtain ⟨j0, j1, _⟩ := ix_spec r (k - x.natAbs) (by omega) hun
      rw [if_pos (by omega), chk_pos (by omega), e1, chk_pos (by omega), Int.toNat_natCast, Int.toNat_natCast, hg, psize_F, obind_of, tabR_get (by omega), hp, hin, obind_of, obind_of, e2, i64 (x := (pre.length : Int) + 1) (by omega) (by omega)]
      simp only [List.length_cons] at i1
      simp only [ix] at i0 i1 ⊢
      have next := fun (v : Int) (h0 : 0 ≤ v) (h1 : v ≤ at0 + 4294967296) => pix_loop hl hK hN nn r (pre ++ [x]) (k - x.natAbs) v (by rw [hy]; simp) (by omega) (by omega) (by omega) hun (fun z hz => hs z (by simp [hz])) (fun _ => ⟨h0, by simp; omega⟩)
      simp only [List.length_append, List.length_singleton, Int.natCast_add] at next
      by_cases c : x < 0
      · rw [if_pos c] at i0 i1 ⊢
        rw [if_pos c, chk_pos (by omega), Int.toNat_natCast, tabL_get _ (by omega), i64 (x := at0 + bs r.length k x.natAbs + cnt r.length (k - x.natAbs)) (by omega) (by omega)]
        refine (next _ (by omega) (by omega)).trans ?_
        congr 1
        omega
      · rw [if_neg c] at i0 i1 ⊢
        rw [if_neg c]
        refine (next _ (by omega) (by omega)).trans ?_
        congr 1
        omega
theorem pindex_F (y : List Int) (hN : 3000 ≤ N) : Rc.pindex.F N y = some (if 1 ≤ y.length ∧ y.length ≤ 16 ∧ psumL y ≤ mostT y.length then (psumL y, ix y (sz1 y), 0) else (0, 0, 1)) := by
  unfold Rc.pindex.F
  rw [pmay_F, obind_of]
  simp only [br_not_dec, br_dec]
  by_cases c1 : ¬ (1 ≤ (y.length : Int) ∧ (y.length : Int) ≤ 16)
  · rw [if_neg c1, if_neg (fun h => by omega)]
  have c1 : 1 ≤ (y.length : Int) ∧ (y.length : Int) ≤ 16 := by omega
  have h5 := psum_loop (N := N) (y := y) (by omega) N y [] 0 rfl (by omega) (by omega) (by simp)
  rw [show (([] : List Int).length : Int) = 0 from rfl, Int.zero_add] at h5
  rw [if_pos c1, h5, obind_of, pmost_F _ hN, obind_of]
  by_cases c2 : psumL y > mostT y.length
  · rw [if_pos c2, if_neg (fun h => by omega)]
  have hm := mostT_range y.length
  obtain ⟨s1, s2⟩ := psum_small y (by omega)
  have hu := un_most (n := y.length) (k := sz1 y) (by omega) (by omega) (by omega)
  have h13 := pix_loop (N := N) (y := y) (K := sz1 y) (by omega) (by omega) hN N y [] (sz1 y) 0 rfl (by omega) rfl (Nat.le_refl _) hu s2 (fun _ => ⟨by omega, by simp⟩)
  rw [show (([] : List Int).length : Int) = 0 from rfl, Int.zero_add] at h13
  rw [if_neg c2, if_pos ⟨by omega, by omega, by omega⟩, s1, table_F (by omega) (by omega) hN, obind_of, h13, obind_of]

/-! ### The twin's -/
def All1000 : List Int → Bool
  | [] => true
  | x :: r => decide (-1000 ≤ x ∧ x ≤ 1000) && All1000 r
def qs (y : List Int) : Int := if y.length < 1 ∨ y.length > 16 then -1 else if All1000 y = true then sz1 y else -1

theorem all1000_of : ∀ y : List Int, (∀ x ∈ y, x.natAbs ≤ 64) → All1000 y = true
  | [], _ => rfl
  | x :: r, h => by
    have := h x (by simp)
    simp only [All1000]
    rw [decide_eq_true (by omega), all1000_of r fun z hz => h z (by simp [hz])]; rfl

/-- A sum that may be. -/
theorem qs_ok {y : List Int} (h0 : 0 ≤ qs y) (h1 : qs y ≤ mostT y.length) : 1 ≤ y.length ∧ y.length ≤ 16 ∧ qs y = sz1 y ∧ sz1 y ≤ 64 ∧ psumL y = sz1 y ∧ ∀ x ∈ y, x.natAbs ≤ 64 := by
  have hm := mostT_range y.length
  unfold qs at h0 h1 ⊢
  by_cases c : y.length < 1 ∨ y.length > 16
  · rw [if_pos c] at h0; omega
  rw [if_neg c] at h0 h1 ⊢
  by_cases c2 : All1000 y = true
  · rw [if_pos c2] at h0 h1 ⊢
    obtain ⟨s1, s2⟩ := sz1_small y (by omega)
    exact ⟨by omega, by omega, rfl, by omega, s1, s2⟩
  · rw [if_neg c2] at h0; omega
theorem qs_not {y : List Int} (h : qs y < 0 ∨ qs y > mostT y.length) : ¬ (1 ≤ y.length ∧ y.length ≤ 16 ∧ psumL y ≤ mostT y.length) := by
  rintro ⟨h1, h2, h3⟩
  have hm := mostT_range y.length
  obtain ⟨s1, s2⟩ := psum_small y (by omega)
  unfold qs at h
  rw [if_neg (by omega), if_pos (all1000_of y s2)] at h
  omega

/-- A vector of a place: what Index tells of it. -/
theorem pindex_vec {n k i : Int} (hv : VOk n k i) (hN : 3000 ≤ N) : Rc.pindex.F N (vec n.toNat k.toNat i) = some (k, i, 0) := by
  obtain ⟨u1, u2, u3⟩ := hv.un
  have hv' := hv
  obtain ⟨c1, c2, c3, c4, c5, c6⟩ := hv
  obtain ⟨v1, v2, v3⟩ := vec_spec n.toNat k.toNat i c5 (by omega) u2
  obtain ⟨s1, s2⟩ := sz1_small (vec n.toNat k.toNat i) (by omega)
  rw [pindex_F _ hN, v1, v2, v3, s1, v2, if_pos]
  · rw [show ((k.toNat : Nat) : Int) = k by omega]
  · rw [show ((n.toNat : Nat) : Int) = n by omega]; omega

/-! ### Order -/
theorem rk_inj {a b : Int} (h : rk a = rk b) : a = b := by
  unfold rk at h
  split at h <;> split at h <;> omega

theorem getD_small {y : List Int} (h : ∀ x ∈ y, x.natAbs ≤ 64) (q : Nat) : (y.getD q 0).natAbs ≤ 64 := by
  rw [List.getD_eq_getElem?_getD]
  cases hq : y[q]? with
  | none => simp
  | some x => exact h x (List.mem_of_getElem? hq)

/-! ### The first and the last -/
end
end Go.Pl
