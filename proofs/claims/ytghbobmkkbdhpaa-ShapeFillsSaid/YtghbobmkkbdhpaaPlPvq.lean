/-
  Layer 17: how many vectors there are: the program's rows and tables, and its plain twin's, are one.
  Conditions: none.
-/
import Derived.Test.YtghbobmkkbdhpaaPlBase
import Derived.Test.YtghbobmkkbdhpaaPlKnown17
set_option linter.unusedSimpArgs false
set_option linter.unusedVariables false
namespace Go.Pl
open Go.Eng Go.Proofs
set_option maxRecDepth 100000

theorem chkN_same {Y : Type} (x : Nat) (k : Option Y) : chkN x x k = k := by simp [chkN]
theorem chkR_same {Y : Type} (x : List (List Int)) (k : Option Y) : chkR x x k = k := by simp [chkR]

/-! ### Counts -/
def cstep (f : Nat → Int) : Nat → Int
  | 0 => 1
  | k + 1 => min (f (k + 1) + cstep f k + f k) 4294967296
def cnt : Nat → Nat → Int
  | 0 => fun k => if k = 0 then 1 else 0
  | n + 1 => cstep (cnt n)
def Small (f : Nat → Int) : Prop := ∀ i, 0 ≤ f i ∧ f i ≤ 4294967296
theorem cstep_small {f : Nat → Int} (h : Small f) : Small (cstep f)
  | 0 => by simp only [cstep]; omega
  | k + 1 => by
    have := cstep_small h k
    have := h k
    have := h (k + 1)
    simp only [cstep]
    omega
theorem cnt_small : ∀ n, Small (cnt n)
  | 0 => fun k => by simp only [cnt]; split <;> omega
  | n + 1 => cstep_small (cnt_small n)
theorem cnt_succ (n k : Nat) : cnt (n + 1) (k + 1) = min (cnt n (k + 1) + cnt (n + 1) k + cnt n k) 4294967296 := rfl
theorem cnt_zero (n : Nat) : cnt n 0 = 1 := by cases n <;> rfl

/-! ### Lists that are tables -/
def tabL (f : Nat → Int) (k : Nat) : List Int := (List.range (k + 1)).map f
theorem tabL_len (f : Nat → Int) (k : Nat) : (tabL f k).length = k + 1 := by simp [tabL]
theorem tabL_get (f : Nat → Int) {k i : Nat} (h : i ≤ k) : (tabL f k).getD i 0 = f i := by
  simp [tabL, List.getD_eq_getElem?_getD, List.getElem?_map, List.getElem?_range, show i < k + 1 by omega]
theorem tabL_ext {f : Nat → Int} {k : Nat} {l : List Int} (hl : l.length = k + 1) (h : ∀ i, i ≤ k → l.getD i 0 = f i) : l = tabL f k := by
  apply List.ext_getElem?
  intro i
  rcases Nat.lt_or_ge i (k + 1) with c | c
  · have h1 := h i (by omega)
    have h2 := tabL_get f (k := k) (i := i) (by omega)
    rw [List.getD_eq_getElem?_getD, List.getElem?_eq_getElem (by omega)] at h1
    rw [List.getD_eq_getElem?_getD, List.getElem?_eq_getElem (by rw [tabL_len]; omega)] at h2
    rw [List.getElem?_eq_getElem (by omega), List.getElem?_eq_getElem (by rw [tabL_len]; omega)]
    simp only [Option.getD_some] at h1 h2
    rw [h1, h2]
  · rw [List.getElem?_eq_none (by omega), List.getElem?_eq_none (by rw [tabL_len]; omega)]
theorem getD_set (l : List Int) (j : Nat) (v : Int) (i : Nat) : (l.set j v).getD i 0 = if i = j ∧ j < l.length then v else l.getD i 0 := by
  rw [List.getD_eq_getElem?_getD, List.getElem?_set, List.getD_eq_getElem?_getD]
  by_cases h : j = i
  · subst h
    rw [if_pos rfl]
    by_cases c : j < l.length
    · rw [if_pos c, if_pos ⟨rfl, c⟩]; rfl
    · rw [if_neg c, if_neg (fun h => c h.2), List.getElem?_eq_none (by omega)]
  · rw [if_neg h, if_neg (fun hh => h hh.1.symm)]
theorem start_row (k : Nat) : (List.replicate (k + 1) (0 : Int)).set 0 1 = tabL (cnt 0) k := by
  refine tabL_ext (by simp) fun i hi => ?_
  rw [getD_set]
  simp only [List.length_replicate, cnt]
  by_cases c : i = 0
  · rw [if_pos ⟨c, by omega⟩, if_pos c]
  · rw [if_neg (fun h => c h.1), if_neg c]
    simp [List.getD_eq_getElem?_getD, List.getElem?_replicate]
    split <;> rfl

section
variable {N : Nat}
theorem prow_in {f : Nat → Int} (hf : Small f) {k : Nat} (hk : k ≤ 1000) : ∀ (nn j : Nat) (l : List Int), 1 ≤ j → j ≤ k + 1 → l.length = k + 1 → (∀ i, i < j → l.getD i 0 = cstep f i) → (∀ i, j ≤ i → i ≤ k → l.getD i 0 = f i) → k + 1 - j < nn →
    Rc.prow.loop7 N nn k (f (j - 1)) j l = some (tabL (cstep f) k)
  | 0, j, l, _, _, _, _, _, h => by omega
  | nn + 1, j, l, j1, j2, hl, ha, hb, h => by
    unfold Rc.prow.loop7
    simp only [br_dec, chkI_same]
    by_cases c : j ≤ k
    · have h1 := hb j (Nat.le_refl _) c
      have h2 := ha (j - 1) (by omega)
      have s1 := hf j
      have s2 := cstep_small hf (j - 1)
      have s3 := hf (j - 1)
      have e1 : IntKind.i64.wrap ((j : Int) - 1) = ((j - 1 : Nat) : Int) := by rw [i64 (by omega) (by omega)]; omega
      rw [if_pos (by omega), chk_pos (by omega), chk_pos (by omega), e1, chk_pos (by omega), chk_pos (by omega), Int.toNat_natCast, Int.toNat_natCast, h1, h2]
      rw [i64 (x := f j + cstep f (j - 1)) (by omega) (by omega), i64 (x := f j + cstep f (j - 1) + f (j - 1)) (by omega) (by omega), i64 (x := (j : Int) + 1) (by omega) (by omega)]
      have hv : (if (4294967296 : Int) < f j + cstep f (j - 1) + f (j - 1) then 4294967296 else f j + cstep f (j - 1) + f (j - 1)) = cstep f j := by
        obtain ⟨m, rfl⟩ : ∃ m, j = m + 1 := ⟨j - 1, by omega⟩
        simp only [cstep, Nat.add_sub_cancel]
        split <;> omega
      rw [hv]
      have ih := prow_in hf hk nn (j + 1) (l.set j (cstep f j)) (by omega) (by omega) (by rw [List.length_set]; exact hl) (fun i hi => by
        rw [getD_set]
        by_cases e : i = j
        · rw [if_pos ⟨e, by omega⟩, e]
        · rw [if_neg (fun h => e h.1)]; exact ha i (by omega)) (fun i hi hi2 => by
        rw [getD_set, if_neg (fun h => by omega)]; exact hb i (by omega) hi2) (by omega)
      exact ih
    · rw [if_neg (by omega)]
      obtain rfl : j = k + 1 := by omega
      exact congrArg some (tabL_ext hl fun i hi => ha i (by omega))

theorem prow_out {n k : Nat} (hk : k ≤ 1000) (hN : k + 2 ≤ N) : ∀ (nn i : Nat), i ≤ n → n - i < nn → n < 1000 → Rc.prow.loop4 N nn k n i (tabL (cnt i) k) = some (tabL (cnt n) k)
  | 0, i, _, h, _ => by omega
  | nn + 1, i, hi, h, hn => by
    unfold Rc.prow.loop4
    simp only [br_dec, chkI_same]
    by_cases c : i < n
    · have := prow_in (N := N) (cnt_small i) hk N 1 (tabL (cnt i) k) (by omega) (by omega) (tabL_len _ _) (fun m hm => by
        obtain rfl : m = 0 := by omega
        rw [tabL_get _ (by omega), cnt_zero]; rfl) (fun m _ hm => tabL_get _ hm) (by omega)
      rw [show cnt i (1 - 1) = 1 from cnt_zero i, show ((1 : Nat) : Int) = 1 from rfl] at this
      rw [if_pos (by omega), this, obind_of, i64 (by omega) (by omega)]
      exact prow_out hk hN nn (i + 1) (by omega) (by omega) hn
    · rw [if_neg (by omega)]
      obtain rfl : i = n := by omega
      rfl

theorem prow_F {n k : Nat} (hk : k ≤ 1000) (hn : n < 1000) (hN : 3000 ≤ N) : Rc.prow.F N n k = some (tabL (cnt n) k) := by
  unfold Rc.prow.F
  rw [i64 (x := (k : Int) + 1) (by omega) (by omega), chk_pos (by omega), show ((k : Int) + 1).toNat = k + 1 by omega, chk_pos (by simp), show Int.toNat (0 : Int) = 0 from rfl, start_row]
  have := prow_out (N := N) (n := n) hk (by omega) N 0 (by omega) (by omega) hn
  rw [show ((0 : Nat) : Int) = 0 from rfl] at this
  rw [this, obind_of]

/-! ### The twin's -/
theorem qcount_in {f : Nat → Int} (hf : Small f) {k : Nat} (hk : k ≤ 1000) : ∀ (nn j : Nat) (l : List Int), 1 ≤ j → j ≤ k + 1 → l.length = k + 1 → (∀ i, i < j → l.getD i 0 = cstep f i) → k + 1 - j < nn →
    Rc.qcount.loop11 N nn k (tabL f k) j l = some (tabL (cstep f) k)
  | 0, j, l, _, _, _, _, h => by omega
  | nn + 1, j, l, j1, j2, hl, ha, h => by
    unfold Rc.qcount.loop11
    simp only [br_dec, chkI_same, chkL_same]
    by_cases c : j ≤ k
    · have h2 := ha (j - 1) (by omega)
      have s1 := hf j
      have s2 := cstep_small hf (j - 1)
      have s3 := hf (j - 1)
      have e1 : IntKind.i64.wrap ((j : Int) - 1) = ((j - 1 : Nat) : Int) := by rw [i64 (by omega) (by omega)]; omega
      have tl := tabL_len f k
      rw [if_pos (by omega), chk_pos (by omega), e1, chk_pos (by omega), chk_pos (by omega), chk_pos (by omega), Int.toNat_natCast, Int.toNat_natCast, h2, tabL_get f c, tabL_get f (i := j - 1) (by omega)]
      rw [i64 (x := f j + cstep f (j - 1)) (by omega) (by omega), i64 (x := f j + cstep f (j - 1) + f (j - 1)) (by omega) (by omega), i64 (x := (j : Int) + 1) (by omega) (by omega)]
      rw [chk_pos (by rw [List.length_set]; omega), getD_set, if_pos (show j = j ∧ j < l.length from ⟨rfl, by omega⟩)]
      have hc : cstep f j = min (f j + cstep f (j - 1) + f (j - 1)) 4294967296 := by
        obtain ⟨m, rfl⟩ : ∃ m, j = m + 1 := ⟨j - 1, by omega⟩
        rfl
      by_cases c2 : f j + cstep f (j - 1) + f (j - 1) > 4294967296
      · rw [if_pos c2, chk_pos (by rw [List.length_set]; omega), List.set_set]
        exact qcount_in hf hk nn (j + 1) _ (by omega) (by omega) (by rw [List.length_set]; exact hl) (fun i hi => by
          rw [getD_set]
          by_cases e : i = j
          · rw [if_pos ⟨e, by omega⟩, e, hc]; omega
          · rw [if_neg (fun h => e h.1)]; exact ha i (by omega)) (by omega)
      · rw [if_neg c2]
        exact qcount_in hf hk nn (j + 1) _ (by omega) (by omega) (by rw [List.length_set]; exact hl) (fun i hi => by
          rw [getD_set]
          by_cases e : i = j
          · rw [if_pos ⟨e, by omega⟩, e, hc]; omega
          · rw [if_neg (fun h => e h.1)]; exact ha i (by omega)) (by omega)
    · rw [if_neg (by omega)]
      obtain rfl : j = k + 1 := by omega
      exact congrArg some (tabL_ext hl fun i hi => ha i (by omega))

theorem qcount_out {n k : Nat} (hk : k ≤ 1000) (hN : k + 2 ≤ N) : ∀ (nn i : Nat), i ≤ n → n - i < nn → n < 1000 → Rc.qcount.loop6 N nn n k i (tabL (cnt i) k) = some (tabL (cnt n) k)
  | 0, i, _, h, _ => by omega
  | nn + 1, i, hi, h, hn => by
    unfold Rc.qcount.loop6
    simp only [br_dec, chkI_same]
    by_cases c : i < n
    · have := qcount_in (N := N) (cnt_small i) hk N 1 (tabL (cnt 0) k) (by omega) (by omega) (tabL_len _ _) (fun m hm => by
        obtain rfl : m = 0 := by omega
        rw [tabL_get _ (by omega)]; rfl) (by omega)
      rw [show ((1 : Nat) : Int) = 1 from rfl] at this
      rw [if_pos (by omega), i64 (x := (k : Int) + 1) (by omega) (by omega), chk_pos (by omega), show ((k : Int) + 1).toNat = k + 1 by omega, chk_pos (by simp), show Int.toNat (0 : Int) = 0 from rfl, start_row, this, obind_of, i64 (by omega) (by omega)]
      exact qcount_out hk hN nn (i + 1) (by omega) (by omega) hn
    · rw [if_neg (by omega)]
      obtain rfl : i = n := by omega
      rfl

/-- How many vectors there are, any numbers. -/
def cntA (n k : Int) : Int := if 1 ≤ n ∧ n ≤ 16 ∧ 0 ≤ k ∧ k ≤ 64 then cnt n.toNat k.toNat else 0
theorem cntA_range (n k : Int) : 0 ≤ cntA n k ∧ cntA n k ≤ 4294967296 := by
  unfold cntA
  split
  · exact cnt_small _ _
  · omega

theorem qcount_F (n k : Int) (hN : 3000 ≤ N) : Rc.qcount.F N n k = some (cntA n k) := by
  unfold Rc.qcount.F cntA
  simp only [br_dec]
  by_cases c1 : n < 1
  · rw [if_pos c1, if_neg (by omega)]
  by_cases c2 : n > 16
  · rw [if_neg c1, if_pos c2, if_neg (by omega)]
  by_cases c3 : k < 0
  · rw [if_neg c1, if_neg c2, if_pos c3, if_neg (by omega)]
  by_cases c4 : k > 64
  · rw [if_neg c1, if_neg c2, if_neg c3, if_pos c4, if_neg (by omega)]
  obtain ⟨m, rfl⟩ := Int.eq_ofNat_of_zero_le (show 0 ≤ n by omega)
  obtain ⟨j, rfl⟩ := Int.eq_ofNat_of_zero_le (show 0 ≤ k by omega)
  rw [if_neg c1, if_neg c2, if_neg c3, if_neg c4, if_pos (by omega), i64 (x := (j : Int) + 1) (by omega) (by omega), chk_pos (by omega), show ((j : Int) + 1).toNat = j + 1 by omega, chk_pos (by simp), show Int.toNat (0 : Int) = 0 from rfl, start_row]
  have := qcount_out (N := N) (n := m) (k := j) (by omega) (by omega) N 0 (by omega) (by omega) (by omega)
  rw [show ((0 : Nat) : Int) = 0 from rfl] at this
  rw [this, obind_of, chk_pos (by rw [tabL_len]; omega), Int.toNat_natCast, Int.toNat_natCast, tabL_get _ (Nat.le_refl _)]

theorem pmay_F (n : Int) : Rc.pmay.F N n = some (decide (1 ≤ n ∧ n ≤ 16)) := by
  unfold Rc.pmay.F
  rw [br_dec]
  by_cases c : n ≥ 1
  · rw [if_pos c]
    congr 1
    by_cases d : n ≤ 16
    · rw [decide_eq_true d, decide_eq_true ⟨c, d⟩]
    · rw [decide_eq_false d, decide_eq_false fun h => d h.2]
  · rw [if_neg c, decide_eq_false fun h => c h.1]

theorem pcount_F (n k : Int) (hN : 3000 ≤ N) : Rc.pcount.F N n k = some (cntA n k) := by
  unfold Rc.pcount.F cntA
  rw [pmay_F, obind_of]
  simp only [br_not_dec, br_dec]
  by_cases c1 : ¬ (1 ≤ n ∧ n ≤ 16)
  · rw [if_neg c1, if_neg (by omega)]
  have c1 : 1 ≤ n ∧ n ≤ 16 := by omega
  by_cases c3 : k < 0
  · rw [if_pos c1, if_pos c3, if_neg (by omega)]
  by_cases c4 : k > 64
  · rw [if_pos c1, if_neg c3, if_pos c4, if_neg (by omega)]
  obtain ⟨m, rfl⟩ := Int.eq_ofNat_of_zero_le (show 0 ≤ n by omega)
  obtain ⟨j, rfl⟩ := Int.eq_ofNat_of_zero_le (show 0 ≤ k by omega)
  rw [if_pos c1, if_neg c3, if_neg c4, if_pos (by omega), prow_F (by omega) (by omega) hN, obind_of, chk_pos (by rw [tabL_len]; omega), Int.toNat_natCast, Int.toNat_natCast, tabL_get _ (Nat.le_refl _)]

/-! ### The most pulses -/
def mostT (n : Int) : Int := if 1 ≤ n ∧ n ≤ 16 then [(64 : Int), 64, 64, 64, 64, 64, 53, 36, 27, 22, 18, 16, 15, 13, 12, 12].getD (n - 1).toNat 0 else 0
theorem mostT_tab : ∀ i : Fin 16, 12 ≤ [(64 : Int), 64, 64, 64, 64, 64, 53, 36, 27, 22, 18, 16, 15, 13, 12, 12].getD i.val 0 ∧ [(64 : Int), 64, 64, 64, 64, 64, 53, 36, 27, 22, 18, 16, 15, 13, 12, 12].getD i.val 0 ≤ 64 := by decide +kernel
theorem mostT_range (n : Int) : 0 ≤ mostT n ∧ mostT n ≤ 64 := by
  unfold mostT
  split
  · have := mostT_tab ⟨(n - 1).toNat, by omega⟩; simp only at this; omega
  · omega
theorem qmost_F (n : Int) : Rc.qmost.F N n = some (mostT n) := by
  unfold Rc.qmost.F mostT
  simp only [br_dec]
  by_cases c1 : n < 1
  · rw [if_pos c1, if_neg (by omega)]
  by_cases c2 : n > 16
  · rw [if_neg c1, if_pos c2, if_neg (by omega)]
  rw [if_neg c1, if_neg c2, if_pos (by omega), i64 (by omega) (by omega), chk_pos (by simp only [List.length_cons, List.length_nil]; omega)]

/-- A row by counting through. -/
def nextR : Int → Int → List Int → List Int
  | _, _, [] => []
  | a, b, x :: r => min (x + a + b) 4294967296 :: nextR (min (x + a + b) 4294967296) x r
def rowC : Nat → List Int
  | 0 => 1 :: List.replicate 64 0
  | n + 1 => match rowC n with
    | [] => []
    | x :: r => 1 :: nextR 1 x r

theorem nextR_len : ∀ (a b : Int) (l : List Int), (nextR a b l).length = l.length
  | _, _, [] => rfl
  | a, b, x :: r => by simp only [nextR, List.length_cons, nextR_len _ _ r]
theorem nextR_get {f : Nat → Int} : ∀ (l : List Int) (j : Nat), (∀ i, i < l.length → l.getD i 0 = f (j + 1 + i)) → ∀ i, i < l.length → (nextR (cstep f j) (f j) l).getD i 0 = cstep f (j + 1 + i)
  | [], j, _, i, h => by simp at h
  | x :: r, j, h, i, hi => by
    have hx : x = f (j + 1) := by have := h 0 (by simp); simpa using this
    have hv : min (x + cstep f j + f j) 4294967296 = cstep f (j + 1) := by rw [hx]; rfl
    simp only [nextR, hv]
    cases i with
    | zero => rfl
    | succ i =>
      have := nextR_get (f := f) r (j + 1) (fun m hm => by
        have := h (m + 1) (by simp; omega)
        rw [show j + 1 + (m + 1) = j + 1 + 1 + m by omega] at this
        simpa using this) i (by simpa using hi)
      rw [hx, show j + 1 + (i + 1) = j + 1 + 1 + i by omega]
      simpa using this
theorem row0 : ∀ i : Fin 65, (rowC 0).getD i.val 0 = cnt 0 i.val := by decide +kernel
theorem rowC_get : ∀ n, (rowC n).length = 65 ∧ ∀ i, i < 65 → (rowC n).getD i 0 = cnt n i
  | 0 => ⟨by decide +kernel, fun i hi => row0 ⟨i, hi⟩⟩
  | n + 1 => by
    obtain ⟨h1, h2⟩ := rowC_get n
    cases hr : rowC n with
    | nil => rw [hr] at h1; simp at h1
    | cons x r =>
      rw [hr] at h1 h2
      have hx : x = cnt n 0 := by have := h2 0 (by omega); simpa using this
      simp only [rowC, hr]
      refine ⟨by simp only [List.length_cons, nextR_len] at h1 ⊢; exact h1, fun i hi => ?_⟩
      cases i with
      | zero => rfl
      | succ i =>
        have := nextR_get (f := cnt n) r 0 (fun m hm => by
          have := h2 (m + 1) (by simp only [List.length_cons] at h1; omega)
          rw [show 0 + 1 + m = m + 1 by omega]
          simpa using this) i (by simp only [List.length_cons] at h1; omega)
        rw [← hx, show 0 + 1 + i = i + 1 by omega] at this
        show (nextR 1 x r).getD i 0 = cnt (n + 1) (i + 1)
        exact this
theorem rowC_tab (n : Nat) : tabL (cnt n) 64 = rowC n := by
  obtain ⟨h1, h2⟩ := rowC_get n
  exact (tabL_ext h1 fun i hi => h2 i (by omega)).symm

/-- Where a row stays below 2^32. -/
def topOf (l : List Int) : Nat → Nat
  | 0 => 0
  | k + 1 => if l.getD (k + 1) 0 ≥ 4294967296 then topOf l k else k + 1
theorem pmost_loop {l : List Int} (hl : l.length = 65) (h0 : l.getD 0 0 < 4294967296) : ∀ (nn k : Nat), k ≤ 64 → k < nn → Rc.pmost.loop5 N nn l k = some ((topOf l k : Nat) : Int)
  | 0, k, _, h => by omega
  | nn + 1, k, hk, h => by
    unfold Rc.pmost.loop5
    simp only [br_dec, chkL_same]
    rw [chk_pos (by omega), Int.toNat_natCast]
    cases k with
    | zero => rw [if_neg (by omega)]; rfl
    | succ k =>
      simp only [topOf]
      by_cases c : l.getD (k + 1) 0 ≥ 4294967296
      · rw [if_pos c, if_pos c, i64 (by omega) (by omega), show ((k + 1 : Nat) : Int) - 1 = (k : Int) by omega]
        exact pmost_loop hl h0 nn k (by omega) (by omega)
      · rw [if_neg c, if_neg c]
theorem tops : ∀ i : Fin 16, ((topOf (rowC (i.val + 1)) 64 : Nat) : Int) = mostT ((i.val : Int) + 1) := by decide +kernel
theorem pmost_F (n : Int) (hN : 3000 ≤ N) : Rc.pmost.F N n = some (mostT n) := by
  unfold Rc.pmost.F
  rw [pmay_F, obind_of]
  simp only [br_not_dec]
  by_cases c : 1 ≤ n ∧ n ≤ 16
  · obtain ⟨m, rfl⟩ := Int.eq_ofNat_of_zero_le (show 0 ≤ n by omega)
    have h := prow_F (N := N) (n := m) (k := 64) (by omega) (by omega) hN
    rw [show ((64 : Nat) : Int) = 64 from rfl] at h
    have hl := pmost_loop (N := N) (l := tabL (cnt m) 64) (tabL_len _ _) (by rw [tabL_get _ (by omega), cnt_zero]; omega) N 64 (by omega) (by omega)
    rw [show ((64 : Nat) : Int) = 64 from rfl] at hl
    have ht := tops ⟨m - 1, by omega⟩
    simp only at ht
    rw [show m - 1 + 1 = m by omega, show (((m - 1 : Nat) : Int) + 1) = (m : Int) by omega, ← rowC_tab] at ht
    rw [if_pos c, h, obind_of, hl, obind_of, ht]
  · rw [if_neg c]
    unfold mostT
    rw [if_neg c]

theorem cnt_pos (n : Nat) : ∀ k, 1 ≤ cnt (n + 1) k
  | 0 => by rw [cnt_zero]; omega
  | k + 1 => by
    have := cnt_pos n k
    have := cnt_small n k
    have := cnt_small n (k + 1)
    rw [cnt_succ]; omega

end
end Go.Pl
