/-
  Layer 17: the program's tables, vectors and places, and its plain twin's.
  Conditions: none.
-/
import Derived.Test.YtghbobmkkbdhpaaPlPvq2
set_option linter.unusedSimpArgs false
set_option linter.unusedVariables false
namespace Go.Pl
open Go.Eng Go.Proofs

def tabR (n k : Nat) : List (List Int) := (List.range (n + 1)).map fun m => tabL (cnt m) k
theorem tabR_len (n k : Nat) : (tabR n k).length = n + 1 := by simp [tabR]
theorem tabR_get {n k m : Nat} (h : m ≤ n) : (tabR n k).getD m [] = tabL (cnt m) k := by
  simp [tabR, List.getD_eq_getElem?_getD, List.getElem?_map, List.getElem?_range, show m < n + 1 by omega]
theorem tabR_ext {n k : Nat} {l : List (List Int)} (hl : l.length = n + 1) (h : ∀ m, m ≤ n → l.getD m [] = tabL (cnt m) k) : l = tabR n k := by
  apply List.ext_getElem?
  intro i
  rcases Nat.lt_or_ge i (n + 1) with c | c
  · have h1 := h i (by omega)
    have h2 := tabR_get (k := k) (show i ≤ n by omega)
    rw [List.getD_eq_getElem?_getD, List.getElem?_eq_getElem (by omega)] at h1
    rw [List.getD_eq_getElem?_getD, List.getElem?_eq_getElem (by rw [tabR_len]; omega)] at h2
    rw [List.getElem?_eq_getElem (by omega), List.getElem?_eq_getElem (by rw [tabR_len]; omega)]
    simp only [Option.getD_some] at h1 h2
    rw [h1, h2]
  · rw [List.getElem?_eq_none (by omega), List.getElem?_eq_none (by rw [tabR_len]; omega)]
theorem getR_set (l : List (List Int)) (j : Nat) (v : List Int) (i : Nat) : (l.set j v).getD i [] = if i = j ∧ j < l.length then v else l.getD i [] := by
  rw [List.getD_eq_getElem?_getD, List.getElem?_set, List.getD_eq_getElem?_getD]
  by_cases h : j = i
  · subst h
    rw [if_pos rfl]
    by_cases c : j < l.length
    · rw [if_pos c, if_pos ⟨rfl, c⟩]; rfl
    · rw [if_neg c, if_neg (fun h => c h.2), List.getElem?_eq_none (by omega)]
  · rw [if_neg h, if_neg (fun hh => h hh.1.symm)]

section
variable {N : Nat}
theorem table_in {k i : Nat} (hk : k ≤ 1000) (hi : i < 1000) {R : List (List Int)} (hR : R.getD i [] = tabL (cnt i) k) (hRl : i + 1 < R.length) : ∀ (nn j : Nat) (l : List Int), 1 ≤ j → j ≤ k + 1 → l.length = k + 1 → (∀ m, m < j → l.getD m 0 = cnt (i + 1) m) → k + 1 - j < nn →
    Rc.table.loop8 N nn k ((i + 1 : Nat) : Int) ((i + 1 : Nat) : Int) R j l = some (tabL (cnt (i + 1)) k)
  | 0, j, l, _, _, _, _, h => by omega
  | nn + 1, j, l, j1, j2, hl, ha, h => by
    unfold Rc.table.loop8
    simp only [br_dec, chkI_same, chkL_same, chkN_same, chkR_same]
    by_cases c : j ≤ k
    · have h2 := ha (j - 1) (by omega)
      have s1 := cnt_small i j
      have s2 := cnt_small (i + 1) (j - 1)
      have s3 := cnt_small i (j - 1)
      have e1 : IntKind.i64.wrap ((j : Int) - 1) = ((j - 1 : Nat) : Int) := by rw [i64 (by omega) (by omega)]; omega
      have e2 : IntKind.i64.wrap (((i + 1 : Nat) : Int) - 1) = (i : Int) := by rw [i64 (by omega) (by omega)]; omega
      have tl := tabL_len (cnt i) k
      rw [if_pos (by omega), if_pos (by omega), chk_pos (by omega), if_pos trivial, e2, chk_pos (by omega), Int.toNat_natCast, Int.toNat_natCast, if_neg (by omega), hR, chk_pos (by omega), chk_pos (by omega), if_pos trivial, e1, chk_pos (by omega), chk_pos (by omega), if_neg (by omega), chk_pos (by omega), chk_pos (by omega), Int.toNat_natCast, Int.toNat_natCast, h2, tabL_get _ c, tabL_get _ (i := j - 1) (by omega)]
      rw [i64 (x := cnt i j + cnt (i + 1) (j - 1)) (by omega) (by omega), i64 (x := cnt i j + cnt (i + 1) (j - 1) + cnt i (j - 1)) (by omega) (by omega), i64 (x := (j : Int) + 1) (by omega) (by omega)]
      have hv : (if (4294967296 : Int) < cnt i j + cnt (i + 1) (j - 1) + cnt i (j - 1) then 4294967296 else cnt i j + cnt (i + 1) (j - 1) + cnt i (j - 1)) = cnt (i + 1) j := by
        obtain ⟨m, rfl⟩ : ∃ m, j = m + 1 := ⟨j - 1, by omega⟩
        rw [cnt_succ]
        simp only [Nat.add_sub_cancel]
        split <;> omega
      rw [hv]
      exact table_in hk hi hR hRl nn (j + 1) (l.set j (cnt (i + 1) j)) (by omega) (by omega) (by rw [List.length_set]; exact hl) (fun m hm => by
        rw [getD_set]
        by_cases e : m = j
        · rw [if_pos ⟨e, by omega⟩, e]
        · rw [if_neg (fun h => e h.1)]; exact ha m (by omega)) (by omega)
    · rw [if_neg (by omega)]
      obtain rfl : j = k + 1 := by omega
      exact congrArg some (tabL_ext hl fun i hi => ha i (by omega))
theorem table_in0 {k : Nat} {R : List (List Int)} {l : List Int} : Rc.table.loop8 N (N + 1) k 0 0 R 1 l = some l := by
  unfold Rc.table.loop8
  simp only [br_dec, chkN_same, chkR_same]
  by_cases c : (1 : Int) ≤ k
  · rw [if_pos c, if_neg (by omega)]
  · rw [if_neg c]

theorem table_out {n k : Nat} (hk : k ≤ 1000) (hn : n < 1000) (hN : 3000 ≤ N) : ∀ (nn i : Nat) (R : List (List Int)), i ≤ n + 1 → n + 1 - i < nn → R.length = n + 1 → (∀ m, m < i → R.getD m [] = tabL (cnt m) k) →
    Rc.table.loop3 N nn k ((n + 1 : Nat) : Int) i R = some (tabR n k)
  | 0, i, R, _, h, _, _ => by omega
  | nn + 1, i, R, hi, h, hl, ha => by
    unfold Rc.table.loop3
    simp only [br_dec, chkI_same]
    by_cases c : i < n + 1
    · rw [if_pos (by omega), i64 (x := (k : Int) + 1) (by omega) (by omega), chk_pos (by omega), chk_pos (by omega), chk_pos (by omega), if_pos trivial, show ((k : Int) + 1).toNat = k + 1 by omega, chk_pos (by simp), show Int.toNat (0 : Int) = 0 from rfl, start_row, Int.toNat_natCast, Int.toNat_natCast]
      have hin : Rc.table.loop8 N N k (i : Int) (i : Int) R 1 (tabL (cnt 0) k) = some (tabL (cnt i) k) := by
        obtain ⟨M, rfl⟩ : ∃ M, N = M + 1 := ⟨N - 1, by omega⟩
        cases i with
        | zero =>
          unfold Rc.table.loop8
          simp only [br_dec, chkN_same, chkR_same]
          by_cases c : (1 : Int) ≤ k
          · rw [if_pos c, if_neg (by omega)]
          · rw [if_neg c]
        | succ i =>
          have := table_in (N := M + 1) hk (i := i) (by omega) (R := R) (ha i (by omega)) (by omega) (M + 1) 1 (tabL (cnt 0) k) (by omega) (by omega) (tabL_len _ _) (fun m hm => by
            obtain rfl : m = 0 := by omega
            rw [tabL_get _ (by omega)]; rfl) (by omega)
          exact this
      rw [hin, obind_of, i64 (by omega) (by omega)]
      exact table_out hk hn hN nn (i + 1) _ (by omega) (by omega) (by rw [List.length_set]; exact hl) (fun m hm => by
        rw [getR_set]
        by_cases e : m = i
        · rw [if_pos ⟨e, by omega⟩, e]
        · rw [if_neg (fun h => e h.1)]; exact ha m (by omega))
    · rw [if_neg (by omega)]
      exact congrArg some (tabR_ext hl fun m hm => ha m (by omega))

theorem table_F {n k : Nat} (hk : k ≤ 1000) (hn : n < 1000) (hN : 3000 ≤ N) : Rc.table.F N n k = some (tabR n k) := by
  unfold Rc.table.F
  rw [i64 (x := (n : Int) + 1) (by omega) (by omega), chk_pos (by omega), show ((n : Int) + 1).toNat = n + 1 by omega, List.length_replicate]
  have := table_out (N := N) (n := n) (k := k) hk hn hN N 0 (List.replicate (n + 1) []) (by omega) (by omega) (by simp) (fun m hm => by omega)
  rw [show ((0 : Nat) : Int) = 0 from rfl] at this
  rw [this, obind_of]

/-! ### The program's vectors -/
theorem pfnd {n k K : Nat} (hkK : k ≤ K) (hK : K ≤ 1000) : ∀ (nn f s : Nat) (i : Int), s + f = k + 1 → 0 ≤ i → i + bs n k s < bs n k (k + 1) → i < 1099511627776 → f < nn →
    Rc.pvector.loop11 N nn k (tabL (cnt n) K) i s (both n k s) = some ((fnd n k f s i).2, (((fnd n k f s i).1 : Nat) : Int))
  | 0, f, s, i, _, _, _, _, h => by omega
  | nn + 1, f, s, i, hf, h0, h1, h2, h => by
    unfold Rc.pvector.loop11
    simp only [br_dec, chkI_same, chkL_same]
    have hbn := both_nonneg n k s
    rcases f with _ | f
    · exfalso
      obtain rfl : s = k + 1 := by omega
      omega
    · simp only [fnd]
      by_cases c : i ≥ both n k s
      · have hb : bs n k (s + 1) = bs n k s + both n k s := rfl
        have hsk : s < k := by
          rcases Nat.lt_or_ge s k with d | d
          · exact d
          · obtain rfl : s = k := by omega
            omega
        have tl := tabL_len (cnt n) K
        have sm := cnt_small n (k - (s + 1))
        rw [if_pos c, if_pos c, i64 (x := (s : Int) + 1) (by omega) (by omega), i64 (x := (k : Int) - ((s : Int) + 1)) (by omega) (by omega), chk_pos (by omega), i64 (x := i - both n k s) (by omega) (by omega), show ((k : Int) - ((s : Int) + 1)).toNat = k - (s + 1) by omega, tabL_get _ (by omega), i64 (x := 2 * cnt n (k - (s + 1))) (by omega) (by omega)]
        have ih := pfnd (n := n) hkK hK nn f (s + 1) (i - both n k s) (by omega) (by omega) (by omega) (by omega) (by omega)
        have hb2 : both n k (s + 1) = 2 * cnt n (k - (s + 1)) := by unfold both; rw [if_neg (by omega)]
        rw [hb2] at ih
        exact ih
      · rw [if_neg c, if_neg c]

theorem set_at (pre : List Int) (x v : Int) (r : List Int) : (pre ++ x :: r).set pre.length v = pre ++ v :: r := by
  rw [List.set_append_right _ _ (Nat.le_refl _), Nat.sub_self]; rfl

theorem pvector_loop {n0 K : Nat} (hn0 : n0 ≤ 16) (hK : K ≤ 1000) (hN : 3000 ≤ N) : ∀ (nn n k : Nat) (i : Int) (pre : List Int), pre.length + n = n0 → k ≤ K → 0 ≤ i → i < cnt n k → cnt n k < 4294967296 → n < nn →
    ∃ k' i', Rc.pvector.loop6 N nn n0 n0 (tabR n0 K) k i pre.length (pre ++ List.replicate n 0) = some (k', i', pre ++ vec n k i)
  | 0, n, k, i, pre, _, _, _, _, _, h => by omega
  | nn + 1, n, k, i, pre, hp, hk, h0, h1, hu, h => by
    unfold Rc.pvector.loop6
    simp only [br_dec, chkI_same, chkR_same]
    rcases n with _ | n
    · rw [if_neg (by omega)]
      exact ⟨_, _, rfl⟩
    · have hall := bs_all hu
      have e1 : IntKind.i64.wrap (IntKind.i64.wrap ((n0 : Int) - 1) - (pre.length : Int)) = (n : Int) := by
        rw [i64 (x := (n0 : Int) - 1) (by omega) (by omega), i64 (by omega) (by omega)]; omega
      have tl := tabL_len (cnt n) K
      have tr := tabR_len n0 K
      obtain ⟨_, a1, a2, a3, a4⟩ := fnd_spec (n := n) (k := k) (k + 1) 0 i (by omega) h0 (by show i + 0 < _; omega)
      have z : bs n k 0 = 0 := rfl
      have hpf := pfnd (N := N) (n := n) hk hK N (k + 1) 0 i (by omega) h0 (by show i + 0 < _; omega) (by omega) (by omega)
      rw [show both n k 0 = cnt n k from rfl, show ((0 : Nat) : Int) = 0 from rfl] at hpf
      rw [if_pos (by omega), e1, chk_pos (by omega), Int.toNat_natCast, tabR_get (by omega), chk_pos (by omega), Int.toNat_natCast, tabL_get _ hk, hpf, obind_of, List.replicate_succ]
      simp only
      simp only [vec]
      generalize fnd n k (k + 1) 0 i = q at a1 a2 a3 a4 ⊢
      obtain ⟨s, r⟩ := q
      simp only at a1 a2 a3 a4 ⊢
      have hc := cnt_small n (k - s)
      have hun := un_nk hu (show k - s ≤ k by omega)
      have e2 : IntKind.i64.wrap ((k : Int) - (s : Int)) = ((k - s : Nat) : Int) := by rw [i64 (by omega) (by omega)]; omega
      have hlen : (pre ++ (0 : Int) :: List.replicate n 0).length = n0 := by simp; omega
      have next : ∀ (v : Int) (i' : Int), 0 ≤ i' → i' < cnt n (k - s) → ∃ k'' i'', Rc.pvector.loop6 N nn n0 n0 (tabR n0 K) ((k - s : Nat) : Int) i' ((pre.length : Int) + 1) (pre ++ v :: List.replicate n 0) = some (k'', i'', pre ++ v :: vec n (k - s) i') := fun v i' g0 g1 => by
        have := pvector_loop hn0 hK hN nn n (k - s) i' (pre ++ [v]) (by simp; omega) (by omega) g0 g1 hun (by omega)
        rw [show (((pre ++ [v]).length : Nat) : Int) = (pre.length : Int) + 1 by simp, List.append_assoc, List.append_assoc] at this
        exact this
      rw [chk_pos (by omega), e2, i64 (x := (pre.length : Int) + 1) (by omega) (by omega), Int.toNat_natCast, Int.toNat_natCast, tabL_get _ (by omega), set_at]
      by_cases cs : s > 0
      · rw [if_pos (by omega), chk_pos (by omega)]
        by_cases cr : r ≥ cnt n (k - s)
        · have hb : both n k s = 2 * cnt n (k - s) := by unfold both; rw [if_neg (by omega)]
          rw [if_pos cr, if_pos ⟨cs, cr⟩, chk_pos (by omega), chk_pos (by simp; omega), chk_pos (by simp; omega), i64 (x := r - cnt n (k - s)) (by omega) (by omega), set_at]
          have hg : (pre ++ (s : Int) :: List.replicate n 0).getD pre.length 0 = (s : Int) := by simp [List.getD_eq_getElem?_getD]
          rw [hg, i64 (x := 0 - (s : Int)) (by omega) (by omega), show (0 : Int) - s = -(s : Int) by omega]
          exact next _ _ (by omega) (by omega)
        · rw [if_neg cr, if_neg (fun h => cr h.2)]
          exact next _ _ a2 (by omega)
      · rw [if_neg (by omega), if_neg (fun h => cs h.1)]
        have : s = 0 := by omega
        subst this
        refine next _ _ a2 ?_
        unfold both at a3
        rw [if_pos rfl] at a3
        exact a3

/-- May such a place be? -/
def VOk (n k i : Int) : Prop := 1 ≤ n ∧ n ≤ 16 ∧ 0 ≤ k ∧ k ≤ mostT n ∧ 0 ≤ i ∧ i < cntA n k
instance (n k i : Int) : Decidable (VOk n k i) := by unfold VOk; exact inferInstance
theorem VOk.un {n k i : Int} (h : VOk n k i) : cntA n k = cnt n.toNat k.toNat ∧ cnt n.toNat k.toNat < 4294967296 ∧ k ≤ 64 := by
  obtain ⟨h1, h2, h3, h4, h5, h6⟩ := h
  have hr := mostT_range n
  refine ⟨by unfold cntA; rw [if_pos (by omega)], un_most (by omega) (by omega) ?_, by omega⟩
  rw [show ((n.toNat : Nat) : Int) = n by omega]; omega

theorem pvector_F (n k i : Int) (hN : 3000 ≤ N) : Rc.pvector.F N n k i = some (if VOk n k i then (0, vec n.toNat k.toNat i) else (1, [])) := by
  unfold Rc.pvector.F
  rw [pmay_F, obind_of]
  simp only [br_not_dec, br_dec]
  by_cases c1 : ¬ (1 ≤ n ∧ n ≤ 16)
  · rw [if_neg c1, if_neg (fun h => c1 ⟨h.1, h.2.1⟩)]
  have c1 : 1 ≤ n ∧ n ≤ 16 := by omega
  rw [if_pos c1]
  by_cases c2 : k < 0
  · rw [if_pos c2, if_neg (fun h => by have := h.2.2.1; omega)]
  rw [if_neg c2, pmost_F _ hN, obind_of]
  by_cases c3 : k > mostT n
  · rw [if_pos c3, if_neg (fun h => by have := h.2.2.2.1; omega)]
  rw [if_neg c3]
  by_cases c4 : i < 0
  · rw [if_pos c4, if_neg (fun h => by have := h.2.2.2.2.1; omega)]
  rw [if_neg c4, pcount_F _ _ hN, obind_of]
  by_cases c5 : i ≥ cntA n k
  · rw [if_pos c5, if_neg (fun h => by have := h.2.2.2.2.2; omega)]
  have hv : VOk n k i := ⟨c1.1, c1.2, by omega, by omega, by omega, by omega⟩
  obtain ⟨u1, u2, u3⟩ := hv.un
  rw [if_neg c5, if_pos hv]
  obtain ⟨m, rfl⟩ := Int.eq_ofNat_of_zero_le (show 0 ≤ n by omega)
  obtain ⟨j, rfl⟩ := Int.eq_ofNat_of_zero_le (show 0 ≤ k by omega)
  simp only [Int.toNat_natCast] at u1 u2 ⊢
  obtain ⟨k', i', hl⟩ := pvector_loop (N := N) (n0 := m) (K := j) (by omega) (by omega) hN N m j i [] (by simp) (Nat.le_refl _) (by omega) (by omega) u2 (by omega)
  rw [show (([] : List Int).length : Int) = 0 from rfl, List.nil_append, List.nil_append] at hl
  rw [table_F (by omega) (by omega) hN, obind_of, chk_pos (by omega), List.length_replicate, hl, obind_of]

/-! ### The twin's vectors -/
theorem qrest_F {n : Nat} {k : Nat} (hn : n ≤ 16) (hk : k ≤ 64) (hN : 3000 ≤ N) : Rc.qrest.F N n k = some (cnt n k) := by
  unfold Rc.qrest.F
  simp only [br_beq]
  cases n with
  | zero =>
    rw [if_pos (by omega)]
    simp only [cnt]
    by_cases c : k = 0
    · rw [if_pos (by omega), if_pos c]
    · rw [if_neg (by omega), if_neg c]
  | succ n =>
    rw [if_neg (by omega), qcount_F _ _ hN, obind_of]
    unfold cntA
    rw [if_pos (by omega)]
    simp

theorem qfnd {n0 at0 n k : Nat} (hn : at0 + n + 1 = n0) (hn0 : n0 ≤ 16) (hk : k ≤ 64) (hN : 3000 ≤ N) : ∀ (nn f s : Nat) (i : Int), s + f = k + 1 → 0 ≤ i → i + bs n k s < bs n k (k + 1) → i < 1099511627776 → 2 * f < nn →
    Rc.qvector.loop7 N nn n0 k at0 i s 1 =
      some (if (fnd n k f s i).1 > 0 ∧ (fnd n k f s i).2 ≥ cnt n (k - (fnd n k f s i).1) then ((fnd n k f s i).2 - cnt n (k - (fnd n k f s i).1), (((fnd n k f s i).1 : Nat) : Int), -1) else ((fnd n k f s i).2, (((fnd n k f s i).1 : Nat) : Int), 1))
  | 0, f, s, i, _, _, _, _, h => by omega
  | 1, f, s, i, hf, _, h1, _, h => by
    exfalso
    obtain rfl : s = k + 1 := by omega
    omega
  | nn + 2, f, s, i, hf, h0, h1, h2, h => by
    rcases f with _ | f
    · exfalso
      obtain rfl : s = k + 1 := by omega
      omega
    have hsk : s ≤ k := by omega
    have sm := cnt_small n (k - s)
    have e1 : IntKind.i64.wrap (IntKind.i64.wrap ((n0 : Int) - (at0 : Int)) - 1) = (n : Int) := by
      rw [i64 (x := (n0 : Int) - (at0 : Int)) (by omega) (by omega), i64 (by omega) (by omega)]; omega
    have e2 : IntKind.i64.wrap ((k : Int) - (s : Int)) = ((k - s : Nat) : Int) := by rw [i64 (by omega) (by omega)]; omega
    have hb : bs n k (s + 1) = bs n k s + both n k s := rfl
    have ih := fun nn' (h : 2 * f < nn') (hc : i ≥ both n k s) => qfnd (n0 := n0) (at0 := at0) hn hn0 hk hN nn' f (s + 1) (i - both n k s) (by omega) (by have := both_nonneg n k s; omega) (by omega) (by have := both_nonneg n k s; omega) h
    unfold Rc.qvector.loop7
    simp only [br_dec, chkI_same]
    rw [e1, e2, qrest_F (by omega) (by omega) hN, obind_of]
    have fy : i ≥ both n k s → fnd n k (f + 1) s i = fnd n k f (s + 1) (i - both n k s) := fun h => if_pos h
    have fn : ¬ i ≥ both n k s → fnd n k (f + 1) s i = (s, i) := fun h => if_neg h
    by_cases c0 : s = 0
    · subst c0
      have hb0 : both n k 0 = cnt n (k - 0) := rfl
      by_cases c : i < cnt n (k - 0)
      · rw [if_pos c, fn (by omega), if_neg (fun h => by have := h.1; simp at this)]
      · rw [if_neg c, if_neg (by omega), i64 (x := i - cnt n (k - 0)) (by omega) (by omega), i64 (by omega) (by omega), fy (by omega), ← hb0]
        exact ih (nn + 1) (by omega) (by omega)
    · have hbs : both n k s = 2 * cnt n (k - s) := by unfold both; rw [if_neg c0]
      by_cases c : i < cnt n (k - s)
      · rw [if_pos c, fn (by omega), if_neg (fun h => by have := h.2; simp only at this; omega)]
      · rw [if_neg c, if_pos (by omega), if_pos (by omega), i64 (x := i - cnt n (k - s)) (by omega) (by omega)]
        unfold Rc.qvector.loop7
        simp only [br_dec, chkI_same]
        rw [e1, e2, qrest_F (by omega) (by omega) hN, obind_of]
        by_cases c2 : i - cnt n (k - s) < cnt n (k - s)
        · rw [if_pos c2, fn (by omega), if_pos ⟨by show s > 0; omega, by show i ≥ cnt n (k - s); omega⟩]
        · rw [if_neg c2, if_pos (by omega), if_neg (by omega), i64 (x := i - cnt n (k - s) - cnt n (k - s)) (by omega) (by omega), i64 (x := (s : Int) + 1) (by omega) (by omega), fy (by omega), show i - cnt n (k - s) - cnt n (k - s) = i - both n k s by omega]
          exact ih nn (by omega) (by omega)

theorem qvector_loop {n0 : Nat} (hn0 : n0 ≤ 16) (hN : 3000 ≤ N) : ∀ (nn n k : Nat) (i : Int) (pre : List Int), pre.length + n = n0 → k ≤ 64 → 0 ≤ i → i < cnt n k → cnt n k < 4294967296 → n < nn →
    Rc.qvector.loop3 N nn n0 k i pre.length pre = some (pre ++ vec n k i)
  | 0, n, k, i, pre, _, _, _, _, _, h => by omega
  | nn + 1, n, k, i, pre, hp, hk, h0, h1, hu, h => by
    unfold Rc.qvector.loop3
    simp only [br_dec, chkI_same]
    rcases n with _ | n
    · rw [if_neg (by omega)]
      simp [vec]
    · have hall := bs_all hu
      obtain ⟨_, a1, a2, a3, a4⟩ := fnd_spec (n := n) (k := k) (k + 1) 0 i (by omega) h0 (by show i + 0 < _; omega)
      have z : bs n k 0 = 0 := rfl
      have hpf := qfnd (N := N) (n0 := n0) (at0 := pre.length) (n := n) (k := k) (by omega) hn0 hk hN N (k + 1) 0 i (by omega) h0 (by show i + 0 < _; omega) (by omega) (by omega)
      rw [show ((0 : Nat) : Int) = 0 from rfl] at hpf
      rw [if_pos (by omega), hpf, obind_of]
      simp only [vec]
      generalize fnd n k (k + 1) 0 i = q at a1 a2 a3 a4 ⊢
      obtain ⟨s, r⟩ := q
      simp only at a1 a2 a3 a4 ⊢
      have hc := cnt_small n (k - s)
      have hun := un_nk hu (show k - s ≤ k by omega)
      have e2 : IntKind.i64.wrap ((k : Int) - (s : Int)) = ((k - s : Nat) : Int) := by rw [i64 (by omega) (by omega)]; omega
      have next : ∀ (v : Int) (i' : Int), 0 ≤ i' → i' < cnt n (k - s) → Rc.qvector.loop3 N nn n0 ((k - s : Nat) : Int) i' ((pre.length : Int) + 1) (pre ++ [v]) = some (pre ++ v :: vec n (k - s) i') := fun v i' g0 g1 => by
        have := qvector_loop hn0 hN nn n (k - s) i' (pre ++ [v]) (by simp; omega) (by omega) g0 g1 hun (by omega)
        rw [show (((pre ++ [v]).length : Nat) : Int) = (pre.length : Int) + 1 by simp, List.append_assoc] at this
        exact this
      by_cases c : s > 0 ∧ r ≥ cnt n (k - s)
      · have hb : both n k s = 2 * cnt n (k - s) := by unfold both; rw [if_neg (by omega)]
        rw [if_pos c, if_pos c]
        simp only
        rw [chk_pos (by simp; omega), e2, i64 (x := (pre.length : Int) + 1) (by omega) (by omega), i64 (x := -1 * (s : Int)) (by omega) (by omega), show -1 * (s : Int) = -(s : Int) by omega]
        exact next _ _ (by omega) (by omega)
      · rw [if_neg c, if_neg c]
        simp only
        rw [chk_pos (by simp; omega), e2, i64 (x := (pre.length : Int) + 1) (by omega) (by omega), i64 (x := 1 * (s : Int)) (by omega) (by omega), show 1 * (s : Int) = (s : Int) by omega]
        refine next _ _ a2 ?_
        rcases Nat.eq_zero_or_pos s with d | d
        · subst d
          unfold both at a3
          rw [if_pos rfl] at a3
          exact a3
        · rcases Int.lt_or_le r (cnt n (k - s)) with e | e
          · exact e
          · exact absurd ⟨d, e⟩ c

theorem qvector_F {n k i : Int} (hv : VOk n k i) (hN : 3000 ≤ N) : Rc.qvector.F N n k i = some (vec n.toNat k.toNat i) := by
  unfold Rc.qvector.F
  obtain ⟨u1, u2, u3⟩ := hv.un
  obtain ⟨c1, c2, c3, c4, c5, c6⟩ := hv
  obtain ⟨m, rfl⟩ := Int.eq_ofNat_of_zero_le (show 0 ≤ n by omega)
  obtain ⟨j, rfl⟩ := Int.eq_ofNat_of_zero_le (show 0 ≤ k by omega)
  simp only [Int.toNat_natCast] at u1 u2 ⊢
  have hl := qvector_loop (N := N) (n0 := m) (by omega) hN N m j i [] (by simp) (by omega) (by omega) (by omega) u2 (by omega)
  rw [show (([] : List Int).length : Int) = 0 from rfl, List.nil_append] at hl
  rw [hl, obind_of]

/-! ### The same lists -/
end
end Go.Pl
