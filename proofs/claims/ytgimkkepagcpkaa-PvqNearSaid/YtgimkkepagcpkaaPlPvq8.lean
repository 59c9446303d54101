/-
  Layer 17: the plain twin's vector that is near is the program's; it has just so many pulses, and no sign turned: the statement PvqNear.
  Conditions: none.
-/
import Derived.Test.YtgimkkepagcpkaaPlPvq6
set_option linter.unusedSimpArgs false
set_option linter.unusedVariables false
namespace Go.Pl
open Go.Eng Go.Proofs
set_option maxRecDepth 100000

section
variable {N : Nat}
theorem rclamp24 (v : Int) : Rc.rclamp.F N v (-16777216) 16777216 = some (c24 v) := by
  unfold Rc.rclamp.F c24
  simp only [br_dec]
  by_cases c1 : v < -16777216
  · rw [if_pos c1, if_pos c1]
  by_cases c2 : v > 16777216
  · rw [if_neg c1, if_neg (by omega), if_pos c2, if_neg c1, if_pos c2]
  · rw [if_neg c1, if_neg (by omega), if_neg c2, if_neg c1, if_neg c2]

theorem qn_sizes {x : List Int} (hl : x.length ≤ 16) : ∀ (nn : Nat) (r pre A : List Int) (s : Int), x = pre ++ r → A.length = pre.length → r.length < nn → (True → 0 ≤ s ∧ s ≤ 16777216 * (pre.length : Int)) →
    Rc.qnear.loop6 N nn x.length x s pre.length A = some (s + sumL (r.map mg), A ++ r.map c24)
  | 0, r, pre, A, s, _, _, h, _ => by omega
  | nn + 1, r, pre, A, s, hx, hA, h, hs => by
    obtain ⟨s0, s1⟩ := hs trivial
    unfold Rc.qnear.loop6
    simp only [br_dec, chkL_same, chkI_same]
    have hlen : x.length = pre.length + r.length := by rw [hx, List.length_append]
    cases r with
    | nil => rw [if_neg (by simp at hlen; omega)]; simp [sumL]
    | cons v r =>
      simp only [List.length_cons] at hlen h
      have hm := mg_range v
      have hc := c24_range v
      have hg : x.getD pre.length 0 = v := by rw [hx, get_at]
      have gt := get_at A (c24 v) []
      rw [hA] at gt
      have hmg : ((c24 v).natAbs : Int) = mg v := rfl
      rw [if_pos (by omega), chk_pos (by omega), Int.toNat_natCast, hg, rclamp24, obind_of, chk_pos (by simp only [List.length_singleton]; omega), chk_pos (by simp; omega), gt, qsize_F (by omega) (by omega), obind_of, hmg, i64 (x := s + mg v) (by omega) (by omega), i64 (x := (pre.length : Int) + 1) (by omega) (by omega)]
      have ih := qn_sizes hl nn r (pre ++ [v]) (A ++ [c24 v]) (s + mg v) (by rw [hx]; simp) (by simp [hA]) (by omega) (fun _ => ⟨by omega, by simp; omega⟩)
      rw [show (((pre ++ [v]).length : Nat) : Int) = (pre.length : Int) + 1 by simp, List.append_assoc] at ih
      refine ih.trans ?_
      simp only [List.map_cons, sumL]
      rw [show s + mg v + sumL (r.map mg) = s + (mg v + sumL (r.map mg)) by omega]
      rfl

/-- Numbers that are not great. -/
def C24 (c : List Int) : Prop := ∀ i, -16777216 ≤ c.getD i 0 ∧ c.getD i 0 ≤ 16777216

theorem qn_floors {c : List Int} {k S : Int} (hl : c.length ≤ 16) (hk : 0 ≤ k) (hk2 : k ≤ 64) (hS : 1 ≤ S) (hZ : C24 c) : ∀ (nn : Nat) (r pre A : List Int) (s : Int), c = pre ++ r → A.length = pre.length → r.length < nn → (True → s ≤ 64 ∧ -(1073741824 * (pre.length : Int)) ≤ s) →
    Rc.qnear.loop15 N nn k c.length S c s pre.length (A ++ List.replicate r.length 0) = some (s - sumL (r.map fun z => k * (z.natAbs : Int) / S), A ++ r.map fun z => k * (z.natAbs : Int) / S)
  | 0, r, pre, A, s, _, _, h, _ => by omega
  | nn + 1, r, pre, A, s, hx, hA, h, hs => by
    obtain ⟨s0, s1⟩ := hs trivial
    unfold Rc.qnear.loop15
    simp only [br_dec, chkL_same, chkI_same]
    have hlen : c.length = pre.length + r.length := by rw [hx, List.length_append]
    cases r with
    | nil => rw [if_neg (by simp at hlen; omega)]; simp [sumL]
    | cons v r =>
      simp only [List.length_cons] at hlen h
      have hg : c.getD pre.length 0 = v := by rw [hx, get_at]
      have hv := hZ pre.length
      rw [hg] at hv
      have p0 : 0 ≤ k * (v.natAbs : Int) := Int.mul_nonneg hk (by omega)
      have p1 : k * (v.natAbs : Int) ≤ 64 * 16777216 := Int.mul_le_mul hk2 (by omega) (by omega) (by omega)
      have d0 := Int.ediv_nonneg p0 (show 0 ≤ S by omega)
      have d1 := Int.ediv_le_self S p0
      have st := set_at A 0 (k * (v.natAbs : Int) / S) (List.replicate r.length 0)
      rw [hA] at st
      have gt := get_at A (k * (v.natAbs : Int) / S) (List.replicate r.length 0)
      rw [hA] at gt
      have ll : (A ++ (0 : Int) :: List.replicate r.length 0).length = c.length := by simp; omega
      rw [if_pos (by omega), chk_pos (by omega), Int.toNat_natCast, hg, qsize_F (by omega) (by omega), obind_of, chk_pos (by omega), show List.replicate (v :: r).length (0 : Int) = 0 :: List.replicate r.length 0 from rfl, chk_pos (by omega), i64 (x := k * (v.natAbs : Int)) (by omega) (by omega), tdiv_ediv p0, i64 (x := k * (v.natAbs : Int) / S) (by omega) (by omega), st, chk_pos (by simp; omega), gt, i64 (x := s - k * (v.natAbs : Int) / S) (by omega) (by omega), i64 (x := (pre.length : Int) + 1) (by omega) (by omega)]
      have ih := qn_floors hl hk hk2 hS hZ nn r (pre ++ [v]) (A ++ [k * (v.natAbs : Int) / S]) (s - k * (v.natAbs : Int) / S) (by rw [hx]; simp) (by simp [hA]) (by omega) (fun _ => ⟨by omega, by simp; omega⟩)
      rw [show (((pre ++ [v]).length : Nat) : Int) = (pre.length : Int) + 1 by simp, List.append_assoc, List.append_assoc] at ih
      refine ih.trans ?_
      simp only [List.map_cons, sumL]
      rw [show s - k * (v.natAbs : Int) / S - sumL (r.map fun z => k * (z.natAbs : Int) / S) = s - (k * (v.natAbs : Int) / S + sumL (r.map fun z => k * (z.natAbs : Int) / S)) by omega]
      rfl

theorem qn_best {c Z Y : List Int} {k S : Int} (hl : c.length ≤ 16) (hYl : Y.length = c.length) (hc : C24 c) (hcZ : ∀ i, ((c.getD i 0).natAbs : Int) = Z.getD i 0) (hZ : ∀ i, 0 ≤ Z.getD i 0 ∧ Z.getD i 0 ≤ 16777216) (hY : ∀ i, 0 ≤ Y.getD i 0 ∧ Y.getD i 0 ≤ 64) (hk : 0 ≤ k) (hk2 : k ≤ 64) (hS : 1 ≤ S) (hS2 : S ≤ 268435456) : ∀ (nn d b i : Nat), i + d = c.length → b < c.length → d < nn →
    Rc.qnear.loop23 N nn k c.length S Y c b i = some ((bst Z Y k S d b i : Nat) : Int)
  | 0, d, b, i, _, _, h => by omega
  | nn + 1, d, b, i, hd, hb, h => by
    unfold Rc.qnear.loop23
    simp only [br_dec, chkL_same, chkI_same, chkN_same]
    rcases d with _ | d
    · rw [if_neg (by omega)]; rfl
    · obtain ⟨a1, a2, a3, a4⟩ := sc_range hZ hY hk hk2 hS hS2 i
      obtain ⟨b1, b2, b3, b4⟩ := sc_range hZ hY hk hk2 hS hS2 b
      have ci := hc i
      have cb := hc b
      rw [if_pos (by omega), chk_pos (by omega), Int.toNat_natCast, Int.toNat_natCast, qsize_F (by omega) (by omega), obind_of, chk_pos (by omega), chk_pos (by omega), qsize_F (by omega) (by omega), obind_of, hcZ, hcZ, chk_pos (by omega), chk_pos (by omega), chk_pos (by omega), chk_pos (by omega), chk_pos (by omega), chk_pos (by omega)]
      rw [i64 (x := Z.getD i 0 * k) (by omega) (by omega), i64 (x := S * Y.getD i 0) (by omega) (by omega), i64 (x := Z.getD i 0 * k - S * Y.getD i 0) (by omega) (by omega), i64 (x := Z.getD b 0 * k) (by omega) (by omega), i64 (x := S * Y.getD b 0) (by omega) (by omega), i64 (x := Z.getD b 0 * k - S * Y.getD b 0) (by omega) (by omega), i64 (x := (i : Int) + 1) (by omega) (by omega)]
      simp only [bst]
      by_cases cc : Z.getD i 0 * k - S * Y.getD i 0 > Z.getD b 0 * k - S * Y.getD b 0
      · rw [if_pos cc, if_pos (show scN Z Y k S i > scN Z Y k S b from cc)]
        exact qn_best hl hYl hc hcZ hZ hY hk hk2 hS hS2 nn d i (i + 1) (by omega) (by omega) (by omega)
      · rw [if_neg cc, if_neg (show ¬ scN Z Y k S i > scN Z Y k S b from cc)]
        exact qn_best hl hYl hc hcZ hZ hY hk hk2 hS hS2 nn d b (i + 1) (by omega) hb (by omega)

theorem qn_grow {c Z : List Int} {k S : Int} (hl : c.length ≤ 16) (hl1 : 1 ≤ c.length) (hc : C24 c) (hcZ : ∀ i, ((c.getD i 0).natAbs : Int) = Z.getD i 0) (hZ : ∀ i, 0 ≤ Z.getD i 0 ∧ Z.getD i 0 ≤ 16777216) (hk : 0 ≤ k) (hk2 : k ≤ 64) (hS : 1 ≤ S) (hS2 : S ≤ 268435456) (hN : 100 ≤ N) : ∀ (nn l : Nat) (Y : List Int), Y.length = c.length → NN Y → sumL Y + l = k → l < nn →
    Rc.qnear.loop19 N nn k c.length S c l Y = some (0, growN Z k S c.length l Y)
  | 0, l, Y, _, _, _, h => by omega
  | nn + 1, l, Y, hYl, hY, hs, h => by
    unfold Rc.qnear.loop19
    simp only [br_dec, chkL_same, chkI_same]
    rcases l with _ | l
    · rw [if_neg (by omega)]; rfl
    · obtain ⟨y0, y1⟩ := hY.le
      have hYr : ∀ i, 0 ≤ Y.getD i 0 ∧ Y.getD i 0 ≤ 64 := fun i => ⟨hY i, by have := y1 i; omega⟩
      have hb : Rc.qnear.loop23 N N k c.length S Y c ((0 : Nat) : Int) ((1 : Nat) : Int) = some ((topN Z Y k S c.length : Nat) : Int) := qn_best (N := N) hl hYl hc hcZ hZ hYr hk hk2 hS hS2 N (c.length - 1) 0 1 (by omega) (by omega) (by omega)
      rw [show ((0 : Nat) : Int) = 0 from rfl, show ((1 : Nat) : Int) = 1 from rfl] at hb
      have ht : topN Z Y k S c.length < c.length := by have := bst_lt Z Y k S (c.length - 1) 0 1 (by omega); unfold topN; omega
      have hyt := hYr (topN Z Y k S c.length)
      have hcc : (0 : Int) ≤ ((topN Z Y k S c.length : Nat) : Int) ∧ ((topN Z Y k S c.length : Nat) : Int) < (Y.length : Int) := by omega
      rw [if_pos (by omega), hb, obind_of, chk_pos hcc, chk_pos hcc, Int.toNat_natCast, i64 (x := Y.getD (topN Z Y k S c.length) 0 + 1) (by omega) (by omega), i64 (x := ((l + 1 : Nat) : Int) - 1) (by omega) (by omega), show ((l + 1 : Nat) : Int) - 1 = (l : Int) by omega]
      have g := sum_inc Y (topN Z Y k S c.length) (by omega)
      exact qn_grow hl hl1 hc hcZ hZ hk hk2 hS hS2 hN nn l _ (by rw [List.length_set]; exact hYl) (fun i => by
        rw [getD_set]
        have := hY i
        split <;> omega) (by omega) (by omega)

theorem qn_signs {x : List Int} (hl : x.length ≤ 16) : ∀ (nn : Nat) (r pre A B : List Int), x = pre ++ r → A.length = pre.length → B.length = r.length → (∀ i, 0 ≤ B.getD i 0 ∧ B.getD i 0 ≤ 64) → r.length < nn →
    Rc.qnear.loop29 N nn x.length x pre.length (A ++ B) = some (A ++ List.zipWith sg r B)
  | 0, r, pre, A, B, _, _, _, _, h => by omega
  | nn + 1, r, pre, A, B, hx, hA, hB, hBr, h => by
    unfold Rc.qnear.loop29
    simp only [br_dec, chkL_same, chkI_same]
    have hlen : x.length = pre.length + r.length := by rw [hx, List.length_append]
    cases r with
    | nil =>
      rw [if_neg (by simp at hlen; omega)]
      have : B = [] := List.length_eq_zero_iff.1 (by simpa using hB)
      rw [this]; simp
    | cons v r =>
      cases B with
      | nil => simp at hB
      | cons y B =>
        simp only [List.length_cons] at hlen h hB
        have hg : x.getD pre.length 0 = v := by rw [hx, get_at]
        have hy := hBr 0
        simp only [List.getD_cons_zero] at hy
        have hBr' : ∀ i, 0 ≤ B.getD i 0 ∧ B.getD i 0 ≤ 64 := fun i => by simpa using hBr (i + 1)
        have ll : (A ++ y :: B).length = x.length := by simp; omega
        have gt := get_at A y B
        rw [hA] at gt
        have st := set_at A y (-y) B
        rw [hA] at st
        rw [if_pos (by omega), chk_pos (by omega), Int.toNat_natCast, hg, i64 (x := (pre.length : Int) + 1) (by omega) (by omega)]
        have next : ∀ u : Int, Rc.qnear.loop29 N nn x.length x ((pre.length : Int) + 1) (A ++ u :: B) = some (A ++ u :: List.zipWith sg r B) := fun u => by
          have ih := qn_signs hl nn r (pre ++ [v]) (A ++ [u]) B (by rw [hx]; simp) (by simp [hA]) (by omega) hBr' (by omega)
          rw [show (((pre ++ [v]).length : Nat) : Int) = (pre.length : Int) + 1 by simp, List.append_assoc, List.append_assoc] at ih
          exact ih
        by_cases c : v < 0
        · rw [if_pos c, chk_pos (by omega), chk_pos (by omega), gt, i64 (x := 0 - y) (by omega) (by omega), show 0 - y = -y by omega, st, next]
          simp [sg, c]
        · rw [if_neg c, next]
          simp [sg, c]

theorem zip_c24 : ∀ (x B : List Int), List.zipWith sg (x.map c24) B = List.zipWith sg x B
  | [], B => by simp
  | v :: x, [] => by simp
  | v :: x, y :: B => by
    simp only [List.map_cons, List.zipWith_cons_cons]
    rw [zip_c24 x B]
    congr 1
    have := c24_neg v
    unfold sg
    split <;> split <;> omega
theorem c24_map (x : List Int) : C24 (x.map c24) := fun i => by
  rw [List.getD_eq_getElem?_getD, List.getElem?_map]
  cases x[i]? with
  | none => simp
  | some v => exact c24_range v
theorem c24_mg (x : List Int) (i : Nat) : (((x.map c24).getD i 0).natAbs : Int) = (x.map mg).getD i 0 := by
  rw [List.getD_eq_getElem?_getD, List.getD_eq_getElem?_getD, List.getElem?_map, List.getElem?_map]
  cases x[i]? with
  | none => simp
  | some v => rfl

theorem qnear_F {x : List Int} {k : Int} (h1 : 1 ≤ x.length) (h2 : x.length ≤ 16) (hk : 0 ≤ k) (hk2 : k ≤ 64) (hN : 3000 ≤ N) : Rc.qnear.F N k x = some (nearL x k) := by
  unfold Rc.qnear.F
  simp only [br_beq]
  have h6 := qn_sizes (N := N) (x := x) h2 N x [] [] 0 rfl rfl (by omega) (fun _ => ⟨by omega, by simp⟩)
  rw [show (([] : List Int).length : Int) = 0 from rfl, Int.zero_add, List.nil_append] at h6
  obtain ⟨s0, s1⟩ := sum_map_mg x
  rw [chk_pos (by omega), Int.toNat_natCast, h6, obind_of]
  simp only
  by_cases c4 : sumL (x.map mg) = 0
  · rw [if_pos c4, chk_pos (by rw [List.length_replicate]; omega)]
    unfold nearL
    rw [if_pos c4]
    rfl
  obtain ⟨n0, n1⟩ := near_facts (x := x) h1 (k := k) hk c4
  have ml : (x.map c24).length = x.length := by simp
  have em : (x.map c24).map (fun z => k * (z.natAbs : Int) / sumL (x.map mg)) = (x.map mg).map fun z => k * z / sumL (x.map mg) := by
    rw [List.map_map, List.map_map]; rfl
  have h15 := qn_floors (N := N) (c := x.map c24) (k := k) (S := sumL (x.map mg)) (by omega) hk hk2 (by omega) (c24_map x) N (x.map c24) [] [] k rfl rfl (by omega) (fun _ => ⟨by omega, by simp; omega⟩)
  rw [show (([] : List Int).length : Int) = 0 from rfl, List.nil_append, List.nil_append, em, ml] at h15
  rw [if_neg c4, h15, obind_of]
  simp only
  have h19 := qn_grow (N := N) (c := x.map c24) (Z := x.map mg) (k := k) (S := sumL (x.map mg)) (by omega) (by omega) (c24_map x) (c24_mg x) (get_map_mg x) hk hk2 (by omega) (by omega) (by omega) N (k - sumL ((x.map mg).map fun z => k * z / sumL (x.map mg))).toNat _ (by simp) n1 (by omega) (by have := n1.le.1; omega)
  rw [show (((k - sumL ((x.map mg).map fun z => k * z / sumL (x.map mg))).toNat : Nat) : Int) = k - sumL ((x.map mg).map fun z => k * z / sumL (x.map mg)) by omega, ml] at h19
  rw [h19, obind_of]
  simp only
  obtain ⟨g1, g2, g3⟩ := grow_facts (x.map mg) k (sumL (x.map mg)) (n := x.length) h1 (k - sumL ((x.map mg).map fun z => k * z / sumL (x.map mg))).toNat ((x.map mg).map fun z => k * z / sumL (x.map mg)) (by simp) n1
  have h29 := qn_signs (N := N) (x := x.map c24) (by omega) N (x.map c24) [] [] _ rfl rfl (by rw [ml]; exact g1) (fun i => ⟨g2 i, by have := g2.le.2 i; omega⟩) (by omega)
  rw [show (([] : List Int).length : Int) = 0 from rfl, List.nil_append, List.nil_append, ml, zip_c24] at h29
  rw [h29, obind_of]
  unfold nearL
  rw [if_neg c4]

/-! ### What such a vector is like -/
theorem sz1_zip : ∀ (x B : List Int), x.length = B.length → NN B → ((sz1 (List.zipWith sg x B) : Nat) : Int) = sumL B
  | [], [], _, _ => rfl
  | [], _ :: _, h, _ => by simp at h
  | _ :: _, [], h, _ => by simp at h
  | v :: x, y :: B, h, hB => by
    obtain ⟨b0, b1⟩ := hB.tail
    have ih := sz1_zip x B (by simpa using h) b1
    simp only [List.zipWith_cons_cons, sumL, sz1_cons, Int.natCast_add]
    rw [ih]
    unfold sg
    split <;> omega
theorem zip_sign : ∀ (x B : List Int), x.length = B.length → NN B → ∀ i, ((List.zipWith sg x B).getD i 0 > 0 → ¬ x.getD i 0 < 0) ∧ ((List.zipWith sg x B).getD i 0 < 0 → x.getD i 0 < 0)
  | [], [], _, _, i => by simp
  | [], _ :: _, h, _, _ => by simp at h
  | _ :: _, [], h, _, _ => by simp at h
  | v :: x, y :: B, h, hB, i => by
    obtain ⟨b0, b1⟩ := hB.tail
    cases i with
    | zero =>
      simp only [List.zipWith_cons_cons, List.getD_cons_zero]
      unfold sg
      split <;> omega
    | succ i =>
      have := zip_sign x B (by simpa using h) b1 i
      simpa using this

theorem near_spec {x : List Int} {k : Int} (h1 : 1 ≤ x.length) (hk : 0 ≤ k) : (nearL x k).length = x.length ∧ ((sz1 (nearL x k) : Nat) : Int) = k ∧ ∀ i, ((nearL x k).getD i 0 > 0 → ¬ x.getD i 0 < 0) ∧ ((nearL x k).getD i 0 < 0 → x.getD i 0 < 0) := by
  unfold nearL
  by_cases c : sumL (x.map mg) = 0
  · rw [if_pos c]
    cases x with
    | nil => simp at h1
    | cons v x =>
      have hm := mg_range v
      have hs := sum_map_mg x
      simp only [List.map_cons, sumL] at c
      have hv : v = 0 := by
        have : mg v = 0 := by omega
        unfold mg c24 at this
        split at this
        · omega
        · split at this <;> omega
      have hz := sz1_zeros x.length
      simp only [List.length_cons, List.replicate_succ, List.set_cons_zero]
      refine ⟨by simp, by rw [sz1_cons, hz]; omega, fun i => ?_⟩
      cases i with
      | zero => simp only [List.getD_cons_zero]; omega
      | succ i =>
        have : (List.replicate x.length (0 : Int)).getD i 0 = 0 := by
          rw [List.getD_eq_getElem?_getD, List.getElem?_replicate]
          split <;> rfl
        simp only [List.getD_cons_succ, this]
        omega
  · rw [if_neg c]
    obtain ⟨n0, n1⟩ := near_facts (x := x) h1 (k := k) hk c
    obtain ⟨g1, g2, g3⟩ := grow_facts (x.map mg) k (sumL (x.map mg)) (n := x.length) h1 (k - sumL ((x.map mg).map fun z => k * z / sumL (x.map mg))).toNat ((x.map mg).map fun z => k * z / sumL (x.map mg)) (by simp) n1
    exact ⟨by rw [List.length_zipWith, g1, Nat.min_self], by rw [sz1_zip _ _ g1.symm g2]; omega, zip_sign _ _ g1.symm g2⟩

theorem near_loop {x0 : List Int} {k0 : Int} {x y : List Int} (hl : x.length ≤ 16) (hy : y.length = x.length) (hs : ∀ i, (y.getD i 0 > 0 → ¬ x.getD i 0 < 0) ∧ (y.getD i 0 < 0 → x.getD i 0 < 0)) (s : Bool) : ∀ (nn i : Nat), i ≤ y.length → y.length - i < nn →
    ∃ r, Rc.pvqNear.loop11 N x0 k0 nn x y i s = some (.inl r)
  | 0, i, _, h => by omega
  | nn + 1, i, hi, h => by
    unfold Rc.pvqNear.loop11
    simp only [br_dec, chkL_same]
    by_cases c : i < y.length
    · obtain ⟨a, b⟩ := hs i
      have ih : ∃ r, Rc.pvqNear.loop11 N x0 k0 nn x y (IntKind.i64.wrap ((i : Int) + 1)) s = some (.inl r) := by
        rw [i64 (by omega) (by omega)]
        exact near_loop hl hy hs s nn (i + 1) (by omega) (by omega)
      rw [if_pos (by omega), chk_pos (by omega), Int.toNat_natCast]
      by_cases c1 : y.getD i 0 > 0
      · rw [if_pos c1, chk_pos (by omega), if_neg (a c1), chk_pos (by omega), if_neg (by omega)]
        exact ih
      · rw [if_neg c1, chk_pos (by omega)]
        by_cases c2 : y.getD i 0 < 0
        · rw [if_pos c2, chk_pos (by omega), if_neg (by have := b c2; omega)]
          exact ih
        · rw [if_neg c2]
          exact ih
    · rw [if_neg (by omega)]; exact ⟨_, rfl⟩

theorem pvqNear_pure (x : List Int) (k : Int) : ∃ N, Rc.pvqNear.F N x k = some true := by
  refine ⟨3000, ?_⟩
  unfold Rc.pvqNear.F
  rw [awake17_F (by omega), obind_of]
  simp only [br_not, if_true, br_dec, br_bne, br_beq, List.nil_append, List.length_nil, Nat.zero_add]
  have e0 : (([] : List Int).length : Int) = 0 := rfl
  by_cases k1 : x.length > 100
  · rw [if_pos (by omega)]
  rw [if_neg (by omega), chk_pos (by omega), pnear_F _ _ (by omega), obind_of]
  by_cases k2 : x.length < 1
  · rw [if_neg (show ¬ (1 ≤ x.length ∧ x.length ≤ 16 ∧ 0 ≤ k ∧ k ≤ mostT x.length) by omega), if_pos (by omega)]
    simp
  by_cases k3 : x.length > 16
  · rw [if_neg (show ¬ (1 ≤ x.length ∧ x.length ≤ 16 ∧ 0 ≤ k ∧ k ≤ mostT x.length) by omega), if_neg (by omega), if_pos (by omega)]
    simp
  by_cases k4 : k < 0
  · rw [if_neg (show ¬ (1 ≤ x.length ∧ x.length ≤ 16 ∧ 0 ≤ k ∧ k ≤ mostT x.length) by omega), if_neg (by omega), if_neg (by omega), if_pos k4]
    simp
  by_cases k5 : k > mostT x.length
  · rw [if_neg (show ¬ (1 ≤ x.length ∧ x.length ≤ 16 ∧ 0 ≤ k ∧ k ≤ mostT x.length) by omega), if_neg (by omega), if_neg (by omega), if_neg k4, qmost_F, obind_of, if_pos k5]
    simp
  have hm := mostT_range x.length
  obtain ⟨l1, l2, l3⟩ := near_spec (x := x) (k := k) (by omega) (by omega)
  rw [if_pos (show 1 ≤ x.length ∧ x.length ≤ 16 ∧ 0 ≤ k ∧ k ≤ mostT x.length by omega), if_neg (by omega), if_neg (by omega), if_neg k4, qmost_F, obind_of, if_neg k5]
  simp only [if_true]
  rw [qnear_F (by omega) (by omega) (by omega) (by omega) (by omega), obind_of]
  generalize nearL x k = y at l1 l2 l3 ⊢
  obtain ⟨s1, s2⟩ := sz1_small y (by omega)
  have hq : qs y = k := by
    unfold qs
    rw [if_neg (by omega), if_pos (all1000_of y s2)]
    exact l2
  rw [same17_F _ (by omega) (by omega), obind_of]
  simp only [if_true]
  rw [qsum_F _ (by omega), obind_of, hq, if_pos rfl]
  obtain ⟨r, hr⟩ := near_loop (N := 3000) (x0 := x) (k0 := k) (x := x) (y := y) (by omega) l1 l3 false 3000 0 (by omega) (by omega)
  rw [show ((0 : Nat) : Int) = 0 from rfl] at hr
  rw [hr, osum_inl]
end
end Go.Pl
