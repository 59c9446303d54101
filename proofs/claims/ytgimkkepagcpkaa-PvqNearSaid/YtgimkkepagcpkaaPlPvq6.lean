/-
  Layer 17: the vector that is near: by the program and its twin; the statements PvqNear, PvqExact.
  Conditions: none.
-/
import Derived.Test.YtgimkkepagcpkaaPlPvq4
set_option linter.unusedSimpArgs false
set_option linter.unusedVariables false
namespace Go.Pl
open Go.Eng Go.Proofs
set_option maxRecDepth 100000

def c24 (v : Int) : Int := if v < -16777216 then -16777216 else if v > 16777216 then 16777216 else v
def mg (v : Int) : Int := ((c24 v).natAbs : Int)
theorem c24_range (v : Int) : -16777216 ≤ c24 v ∧ c24 v ≤ 16777216 := by
  unfold c24
  split
  · omega
  · split <;> omega
theorem c24_neg (v : Int) : c24 v < 0 ↔ v < 0 := by
  unfold c24
  split
  · omega
  · split <;> omega
theorem mg_range (v : Int) : 0 ≤ mg v ∧ mg v ≤ 16777216 := by have := c24_range v; unfold mg; omega
def sumL : List Int → Int
  | [] => 0
  | x :: r => x + sumL r
theorem sumL_app : ∀ a b : List Int, sumL (a ++ b) = sumL a + sumL b
  | [], b => by simp [sumL]
  | x :: a, b => by simp only [List.cons_append, sumL, sumL_app a b]; omega
def NN (l : List Int) : Prop := ∀ i, 0 ≤ l.getD i 0
theorem NN.tail {x : Int} {l : List Int} (h : NN (x :: l)) : 0 ≤ x ∧ NN l := ⟨by simpa using h 0, fun i => by simpa using h (i + 1)⟩
theorem NN.cons {x : Int} {l : List Int} (h0 : 0 ≤ x) (h : NN l) : NN (x :: l) := fun i => by
  cases i with
  | zero => simpa using h0
  | succ i => simpa using h i
theorem NN.nil : NN [] := fun i => by simp
theorem NN.le : ∀ {l : List Int}, NN l → 0 ≤ sumL l ∧ ∀ i, l.getD i 0 ≤ sumL l
  | [], _ => ⟨Int.le_refl _, fun i => by simp [sumL]⟩
  | x :: l, h => by
    obtain ⟨h0, h1⟩ := h.tail
    obtain ⟨h2, h3⟩ := NN.le h1
    refine ⟨by simp only [sumL]; omega, fun i => ?_⟩
    cases i with
    | zero => simp only [sumL, List.getD_cons_zero]; omega
    | succ i => have := h3 i; simp only [sumL, List.getD_cons_succ]; omega
theorem sum_inc : ∀ (l : List Int) (i : Nat) , i < l.length → sumL (l.set i (l.getD i 0 + 1)) = sumL l + 1
  | [], i, h => by simp at h
  | x :: l, 0, _ => by simp only [List.set_cons_zero, List.getD_cons_zero, sumL]; omega
  | x :: l, i + 1, h => by
    have := sum_inc l i (by simpa using h)
    simp only [List.set_cons_succ, List.getD_cons_succ, sumL]; omega

def scN (Z Y : List Int) (k S : Int) (i : Nat) : Int := Z.getD i 0 * k - S * Y.getD i 0
def bst (Z Y : List Int) (k S : Int) : Nat → Nat → Nat → Nat
  | 0, b, _ => b
  | d + 1, b, i => bst Z Y k S d (if scN Z Y k S i > scN Z Y k S b then i else b) (i + 1)
theorem bst_lt (Z Y : List Int) (k S : Int) : ∀ (d b i : Nat), b < i + d → bst Z Y k S d b i < i + d
  | 0, b, i, h => h
  | d + 1, b, i, h => by
    simp only [bst]
    have := bst_lt Z Y k S d (if scN Z Y k S i > scN Z Y k S b then i else b) (i + 1) (by split <;> omega)
    omega
def topN (Z Y : List Int) (k S : Int) (n : Nat) : Nat := bst Z Y k S (n - 1) 0 1
def growN (Z : List Int) (k S : Int) (n : Nat) : Nat → List Int → List Int
  | 0, Y => Y
  | l + 1, Y => growN Z k S n l (Y.set (topN Z Y k S n) (Y.getD (topN Z Y k S n) 0 + 1))
theorem grow_facts (Z : List Int) (k S : Int) {n : Nat} (hn : 1 ≤ n) : ∀ (l : Nat) (Y : List Int), Y.length = n → NN Y → (growN Z k S n l Y).length = n ∧ NN (growN Z k S n l Y) ∧ sumL (growN Z k S n l Y) = sumL Y + l
  | 0, Y, h, hY => ⟨h, hY, by simp [growN]⟩
  | l + 1, Y, h, hY => by
    have ht : topN Z Y k S n < n := by have := bst_lt Z Y k S (n - 1) 0 1 (by omega); unfold topN; omega
    obtain ⟨g1, g2, g3⟩ := grow_facts Z k S hn l (Y.set (topN Z Y k S n) (Y.getD (topN Z Y k S n) 0 + 1)) (by rw [List.length_set]; exact h) (fun i => by
      rw [getD_set]
      have := hY (topN Z Y k S n)
      have := hY i
      split <;> omega)
    rw [sum_inc _ _ (by omega)] at g3
    exact ⟨g1, g2, by simp only [growN]; omega⟩
def sg (x y : Int) : Int := if x < 0 then -y else y
def nearL (x : List Int) (k : Int) : List Int :=
  if sumL (x.map mg) = 0 then (List.replicate x.length 0).set 0 k
  else List.zipWith sg x (growN (x.map mg) k (sumL (x.map mg)) x.length (k - sumL ((x.map mg).map fun z => k * z / sumL (x.map mg))).toNat ((x.map mg).map fun z => k * z / sumL (x.map mg)))

theorem floors {k S : Int} (hk : 0 ≤ k) (hS : 0 < S) : ∀ Z : List Int, NN Z → NN (Z.map fun z => k * z / S) ∧ S * sumL (Z.map fun z => k * z / S) ≤ k * sumL Z
  | [], _ => ⟨NN.nil, by simp [sumL]⟩
  | z :: Z, h => by
    obtain ⟨h0, h1⟩ := h.tail
    obtain ⟨i1, i2⟩ := floors hk hS Z h1
    have a0 : 0 ≤ k * z := Int.mul_nonneg hk h0
    have a1 := Int.ediv_nonneg a0 (show 0 ≤ S by omega)
    have a2 := Int.mul_ediv_self_le (x := k * z) (k := S) (by omega)
    refine ⟨NN.cons a1 i1, ?_⟩
    simp only [List.map_cons, sumL, Int.mul_add]
    omega
theorem nn_map_mg : ∀ x : List Int, NN (x.map mg)
  | [] => NN.nil
  | v :: x => NN.cons (mg_range v).1 (nn_map_mg x)
theorem get_map_mg (x : List Int) (i : Nat) : 0 ≤ (x.map mg).getD i 0 ∧ (x.map mg).getD i 0 ≤ 16777216 := by
  rw [List.getD_eq_getElem?_getD, List.getElem?_map]
  cases x[i]? with
  | none => simp
  | some v => exact mg_range v
theorem sum_map_mg : ∀ x : List Int, 0 ≤ sumL (x.map mg) ∧ sumL (x.map mg) ≤ 16777216 * x.length
  | [] => by simp [sumL]
  | v :: x => by have := sum_map_mg x; have := mg_range v; simp only [List.map_cons, sumL, List.length_cons]; omega

section
variable {N : Nat}
theorem pn_sizes {x : List Int} (hl : x.length ≤ 16) : ∀ (nn : Nat) (r pre A : List Int) (s : Int), x = pre ++ r → A.length = pre.length → r.length < nn → (True → 0 ≤ s ∧ s ≤ 16777216 * (pre.length : Int)) →
    Rc.pnear.loop6 N nn x.length x s pre.length (A ++ List.replicate r.length 0) = some (s + sumL (r.map mg), A ++ r.map mg)
  | 0, r, pre, A, s, _, _, h, _ => by omega
  | nn + 1, r, pre, A, s, hx, hA, h, hs => by
    obtain ⟨s0, s1⟩ := hs trivial
    unfold Rc.pnear.loop6
    simp only [br_dec, chkL_same, chkI_same]
    have hlen : x.length = pre.length + r.length := by rw [hx, List.length_append]
    cases r with
    | nil => rw [if_neg (by simp at hlen; omega)]; simp [sumL]
    | cons v r =>
      simp only [List.length_cons] at hlen h
      have hm := mg_range v
      have hc := c24_range v
      have hg : x.getD pre.length 0 = v := by rw [hx, get_at]
      have hcl : Rc.clamp.F N v (-16777216) 16777216 = some (c24 v) := by
        unfold Rc.clamp.F c24
        simp only [br_dec]
        by_cases c1 : v < -16777216
        · rw [if_neg (by omega), if_pos c1, if_pos c1]
        by_cases c2 : v > 16777216
        · rw [if_neg (by omega), if_neg c1, if_pos c2, if_neg c1, if_pos c2]
        · rw [if_neg (by omega), if_neg c1, if_neg c2, if_neg c1, if_neg c2]
      have hv : (if 0 - c24 v > c24 v then 0 - c24 v else c24 v) = mg v := by unfold mg; split <;> omega
      have ll : (A ++ (0 : Int) :: List.replicate r.length 0).length = x.length := by simp; omega
      have st := set_at A 0 (mg v) (List.replicate r.length 0)
      rw [hA] at st
      have gt := get_at A (mg v) (List.replicate r.length 0)
      rw [hA] at gt
      rw [if_pos (by omega), chk_pos (by omega), Int.toNat_natCast, hg, hcl, obind_of, i64 (x := 0 - c24 v) (by omega) (by omega), show List.replicate (v :: r).length (0 : Int) = 0 :: List.replicate r.length 0 from rfl, hv, chk_pos (by omega), st, chk_pos (by simp; omega), gt, i64 (x := s + mg v) (by omega) (by omega), i64 (x := (pre.length : Int) + 1) (by omega) (by omega)]
      have ih := pn_sizes hl nn r (pre ++ [v]) (A ++ [mg v]) (s + mg v) (by rw [hx]; simp) (by simp [hA]) (by omega) (fun _ => ⟨by omega, by simp; omega⟩)
      rw [show (((pre ++ [v]).length : Nat) : Int) = (pre.length : Int) + 1 by simp, List.append_assoc, List.append_assoc] at ih
      refine ih.trans ?_
      simp only [List.map_cons, sumL]
      rw [show s + mg v + sumL (r.map mg) = s + (mg v + sumL (r.map mg)) by omega]
      rfl

theorem pn_floors {Z : List Int} {k S : Int} (hl : Z.length ≤ 16) (hk : 0 ≤ k) (hk2 : k ≤ 64) (hS : 1 ≤ S) (hZ : ∀ i, 0 ≤ Z.getD i 0 ∧ Z.getD i 0 ≤ 16777216) : ∀ (nn : Nat) (r pre A : List Int) (s : Int), Z = pre ++ r → A.length = pre.length → r.length < nn → (True → s ≤ 64 ∧ -(1073741824 * (pre.length : Int)) ≤ s) →
    Rc.pnear.loop17 N nn k S Z.length Z s pre.length (A ++ List.replicate r.length 0) = some (s - sumL (r.map fun z => k * z / S), A ++ r.map fun z => k * z / S)
  | 0, r, pre, A, s, _, _, h, _ => by omega
  | nn + 1, r, pre, A, s, hx, hA, h, hs => by
    obtain ⟨s0, s1⟩ := hs trivial
    unfold Rc.pnear.loop17
    simp only [br_dec, chkL_same, chkI_same]
    have hlen : Z.length = pre.length + r.length := by rw [hx, List.length_append]
    cases r with
    | nil => rw [if_neg (by simp at hlen; omega)]; simp [sumL]
    | cons v r =>
      simp only [List.length_cons] at hlen h
      have hg : Z.getD pre.length 0 = v := by rw [hx, get_at]
      have hv := hZ pre.length
      rw [hg] at hv
      have p0 : 0 ≤ k * v := Int.mul_nonneg hk hv.1
      have p1 : k * v ≤ 64 * 16777216 := Int.mul_le_mul hk2 hv.2 hv.1 (by omega)
      have d0 := Int.ediv_nonneg p0 (show 0 ≤ S by omega)
      have d1 := Int.ediv_le_self S p0
      have st := set_at A 0 (k * v / S) (List.replicate r.length 0)
      rw [hA] at st
      have gt := get_at A (k * v / S) (List.replicate r.length 0)
      rw [hA] at gt
      have ll : (A ++ (0 : Int) :: List.replicate r.length 0).length = Z.length := by simp; omega
      rw [if_pos (by omega), chk_pos (by omega), chk_pos (by omega), show List.replicate (v :: r).length (0 : Int) = 0 :: List.replicate r.length 0 from rfl, chk_pos (by omega), Int.toNat_natCast, hg, i64 (x := k * v) (by omega) (by omega), tdiv_ediv p0, i64 (x := k * v / S) (by omega) (by omega), st, chk_pos (by simp; omega), gt, i64 (x := s - k * v / S) (by omega) (by omega), i64 (x := (pre.length : Int) + 1) (by omega) (by omega)]
      have ih := pn_floors hl hk hk2 hS hZ nn r (pre ++ [v]) (A ++ [k * v / S]) (s - k * v / S) (by rw [hx]; simp) (by simp [hA]) (by omega) (fun _ => ⟨by omega, by simp; omega⟩)
      rw [show (((pre ++ [v]).length : Nat) : Int) = (pre.length : Int) + 1 by simp, List.append_assoc, List.append_assoc] at ih
      refine ih.trans ?_
      simp only [List.map_cons, sumL]
      rw [show s - k * v / S - sumL (r.map fun z => k * z / S) = s - (k * v / S + sumL (r.map fun z => k * z / S)) by omega]
      rfl

/-- What is compared stays small. -/
theorem sc_range {Z Y : List Int} {k S : Int} (hZ : ∀ i, 0 ≤ Z.getD i 0 ∧ Z.getD i 0 ≤ 16777216) (hY : ∀ i, 0 ≤ Y.getD i 0 ∧ Y.getD i 0 ≤ 64) (hk : 0 ≤ k) (hk2 : k ≤ 64) (hS : 1 ≤ S) (hS2 : S ≤ 268435456) (i : Nat) :
    0 ≤ Z.getD i 0 * k ∧ Z.getD i 0 * k ≤ 1073741824 ∧ 0 ≤ S * Y.getD i 0 ∧ S * Y.getD i 0 ≤ 17179869184 := by
  have a := hZ i
  have b := hY i
  have h1 : Z.getD i 0 * k ≤ 16777216 * 64 := Int.mul_le_mul a.2 hk2 hk (by omega)
  have h2 : S * Y.getD i 0 ≤ 268435456 * 64 := Int.mul_le_mul hS2 b.2 b.1 (by omega)
  exact ⟨Int.mul_nonneg a.1 hk, by omega, Int.mul_nonneg (by omega) b.1, by omega⟩

theorem pn_best {Z Y : List Int} {k S : Int} (hl : Z.length ≤ 16) (hYl : Y.length = Z.length) (hZ : ∀ i, 0 ≤ Z.getD i 0 ∧ Z.getD i 0 ≤ 16777216) (hY : ∀ i, 0 ≤ Y.getD i 0 ∧ Y.getD i 0 ≤ 64) (hk : 0 ≤ k) (hk2 : k ≤ 64) (hS : 1 ≤ S) (hS2 : S ≤ 268435456) : ∀ (nn d b i : Nat), i + d = Z.length → b < Z.length → d < nn →
    Rc.pnear.loop26 N nn k S Z.length Z Y b i = some ((bst Z Y k S d b i : Nat) : Int)
  | 0, d, b, i, _, _, h => by omega
  | nn + 1, d, b, i, hd, hb, h => by
    unfold Rc.pnear.loop26
    simp only [br_dec, chkL_same, chkI_same]
    rcases d with _ | d
    · rw [if_neg (by omega)]; rfl
    · obtain ⟨a1, a2, a3, a4⟩ := sc_range hZ hY hk hk2 hS hS2 i
      obtain ⟨b1, b2, b3, b4⟩ := sc_range hZ hY hk hk2 hS hS2 b
      rw [if_pos (by omega), chk_pos (by omega), chk_pos (by omega), chk_pos (by omega), chk_pos (by omega), Int.toNat_natCast, Int.toNat_natCast]
      rw [i64 (x := Z.getD i 0 * k) (by omega) (by omega), i64 (x := S * Y.getD i 0) (by omega) (by omega), i64 (x := Z.getD i 0 * k - S * Y.getD i 0) (by omega) (by omega), i64 (x := Z.getD b 0 * k) (by omega) (by omega), i64 (x := S * Y.getD b 0) (by omega) (by omega), i64 (x := Z.getD b 0 * k - S * Y.getD b 0) (by omega) (by omega), i64 (x := (i : Int) + 1) (by omega) (by omega)]
      simp only [bst]
      by_cases c : Z.getD i 0 * k - S * Y.getD i 0 > Z.getD b 0 * k - S * Y.getD b 0
      · rw [if_pos c, if_pos (show scN Z Y k S i > scN Z Y k S b from c)]
        exact pn_best hl hYl hZ hY hk hk2 hS hS2 nn d i (i + 1) (by omega) (by omega) (by omega)
      · rw [if_neg c, if_neg (show ¬ scN Z Y k S i > scN Z Y k S b from c)]
        exact pn_best hl hYl hZ hY hk hk2 hS hS2 nn d b (i + 1) (by omega) hb (by omega)

theorem bst_from0 (Z Y : List Int) (k S : Int) {n : Nat} (h : 1 ≤ n) : bst Z Y k S n 0 0 = topN Z Y k S n := by
  obtain ⟨m, rfl⟩ : ∃ m, n = m + 1 := ⟨n - 1, by omega⟩
  unfold topN
  simp only [bst, Nat.add_sub_cancel]
  rw [if_neg (by omega)]

theorem pn_grow {Z : List Int} {k S : Int} (hl : Z.length ≤ 16) (hl1 : 1 ≤ Z.length) (hZ : ∀ i, 0 ≤ Z.getD i 0 ∧ Z.getD i 0 ≤ 16777216) (hk : 0 ≤ k) (hk2 : k ≤ 64) (hS : 1 ≤ S) (hS2 : S ≤ 268435456) (hN : 100 ≤ N) : ∀ (nn l : Nat) (Y : List Int), Y.length = Z.length → NN Y → sumL Y + l = k → l < nn →
    Rc.pnear.loop22 N nn k S Z l Y = some (0, growN Z k S Z.length l Y)
  | 0, l, Y, _, _, _, h => by omega
  | nn + 1, l, Y, hYl, hY, hs, h => by
    unfold Rc.pnear.loop22
    simp only [br_dec, chkL_same, chkI_same]
    rcases l with _ | l
    · rw [if_neg (by omega)]; rfl
    · obtain ⟨y0, y1⟩ := hY.le
      have hYr : ∀ i, 0 ≤ Y.getD i 0 ∧ Y.getD i 0 ≤ 64 := fun i => ⟨hY i, by have := y1 i; omega⟩
      have hb := pn_best (N := N) hl hYl hZ hYr hk hk2 hS hS2 N Z.length 0 0 (by omega) (by omega) (by omega)
      rw [bst_from0 _ _ _ _ hl1, show ((0 : Nat) : Int) = 0 from rfl] at hb
      have ht : topN Z Y k S Z.length < Z.length := by have := bst_lt Z Y k S (Z.length - 1) 0 1 (by omega); unfold topN; omega
      have hyt := hYr (topN Z Y k S Z.length)
      have hc : (0 : Int) ≤ ((topN Z Y k S Z.length : Nat) : Int) ∧ ((topN Z Y k S Z.length : Nat) : Int) < (Y.length : Int) := by omega
      rw [if_pos (by omega), hb, obind_of, chk_pos hc, chk_pos hc, Int.toNat_natCast, i64 (x := Y.getD (topN Z Y k S Z.length) 0 + 1) (by omega) (by omega), i64 (x := ((l + 1 : Nat) : Int) - 1) (by omega) (by omega), show ((l + 1 : Nat) : Int) - 1 = (l : Int) by omega]
      have g := sum_inc Y (topN Z Y k S Z.length) (by omega)
      exact pn_grow hl hl1 hZ hk hk2 hS hS2 hN nn l _ (by rw [List.length_set]; exact hYl) (fun i => by
        rw [getD_set]
        have := hY i
        split <;> omega) (by omega) (by omega)

theorem pn_signs {x : List Int} (hl : x.length ≤ 16) : ∀ (nn : Nat) (r pre A B : List Int), x = pre ++ r → A.length = pre.length → B.length = r.length → (∀ i, 0 ≤ B.getD i 0 ∧ B.getD i 0 ≤ 64) → r.length < nn →
    Rc.pnear.loop33 N nn x.length x pre.length (A ++ B) = some (A ++ List.zipWith sg r B)
  | 0, r, pre, A, B, _, _, _, _, h => by omega
  | nn + 1, r, pre, A, B, hx, hA, hB, hBr, h => by
    unfold Rc.pnear.loop33
    simp only [br_dec, chkL_same, chkI_same]
    have hlen : x.length = pre.length + r.length := by rw [hx, List.length_append]
    cases r with
    | nil =>
      rw [if_neg (by simp at hlen; omega)]
      have : B = [] := List.length_eq_zero_iff.1 (by simpa using hB)
      rw [this]; simp
    | cons v r =>
      cases B with
      | nil => simp at hB
      | cons y B =>
        simp only [List.length_cons] at hlen h hB
        have hg : x.getD pre.length 0 = v := by rw [hx, get_at]
        have hy := hBr 0
        simp only [List.getD_cons_zero] at hy
        have hBr' : ∀ i, 0 ≤ B.getD i 0 ∧ B.getD i 0 ≤ 64 := fun i => by simpa using hBr (i + 1)
        have ll : (A ++ y :: B).length = x.length := by simp; omega
        have gt := get_at A y B
        rw [hA] at gt
        have st := set_at A y (-y) B
        rw [hA] at st
        rw [if_pos (by omega), chk_pos (by omega), Int.toNat_natCast, hg, i64 (x := (pre.length : Int) + 1) (by omega) (by omega)]
        have next : ∀ u : Int, Rc.pnear.loop33 N nn x.length x ((pre.length : Int) + 1) (A ++ u :: B) = some (A ++ u :: List.zipWith sg r B) := fun u => by
          have ih := pn_signs hl nn r (pre ++ [v]) (A ++ [u]) B (by rw [hx]; simp) (by simp [hA]) (by omega) hBr' (by omega)
          rw [show (((pre ++ [v]).length : Nat) : Int) = (pre.length : Int) + 1 by simp, List.append_assoc, List.append_assoc] at ih
          exact ih
        by_cases c : v < 0
        · rw [if_pos c, chk_pos (by omega), chk_pos (by omega), gt, i64 (x := 0 - y) (by omega) (by omega), show 0 - y = -y by omega, st, next]
          simp [sg, c]
        · rw [if_neg c, next]
          simp [sg, c]

theorem near_facts {x : List Int} (h1 : 1 ≤ x.length) {k : Int} (hk : 0 ≤ k) (hS : sumL (x.map mg) ≠ 0) :
    0 ≤ k - sumL ((x.map mg).map fun z => k * z / sumL (x.map mg)) ∧ NN ((x.map mg).map fun z => k * z / sumL (x.map mg)) := by
  obtain ⟨s0, _⟩ := sum_map_mg x
  obtain ⟨f1, f2⟩ := floors hk (show 0 < sumL (x.map mg) by omega) (x.map mg) (nn_map_mg x)
  rw [Int.mul_comm k] at f2
  have := Int.le_of_mul_le_mul_left f2 (show 0 < sumL (x.map mg) by omega)
  exact ⟨by omega, f1⟩

theorem pnear_F (x : List Int) (k : Int) (hN : 3000 ≤ N) : Rc.pnear.F N k x = some (if 1 ≤ x.length ∧ x.length ≤ 16 ∧ 0 ≤ k ∧ k ≤ mostT x.length then (0, nearL x k) else (1, [])) := by
  unfold Rc.pnear.F
  rw [pmay_F, obind_of]
  simp only [br_not_dec, br_dec, br_beq]
  by_cases c1 : ¬ (1 ≤ (x.length : Int) ∧ (x.length : Int) ≤ 16)
  · rw [if_neg c1, if_neg (fun h => by omega)]
  have c1 : 1 ≤ (x.length : Int) ∧ (x.length : Int) ≤ 16 := by omega
  by_cases c2 : k < 0
  · rw [if_pos c1, if_pos c2, if_neg (fun h => by omega)]
  rw [if_pos c1, if_neg c2, pmost_F _ hN, obind_of]
  by_cases c3 : k > mostT x.length
  · rw [if_pos c3, if_neg (fun h => by omega)]
  have hm := mostT_range x.length
  have h6 := pn_sizes (N := N) (x := x) (by omega) N x [] [] 0 rfl rfl (by omega) (fun _ => ⟨by omega, by simp⟩)
  rw [show (([] : List Int).length : Int) = 0 from rfl, Int.zero_add, List.nil_append, List.nil_append] at h6
  obtain ⟨s0, s1⟩ := sum_map_mg x
  rw [if_neg c3, if_pos ⟨by omega, by omega, by omega, by omega⟩, chk_pos (by omega), chk_pos (by omega), Int.toNat_natCast, h6, obind_of]
  simp only
  by_cases c4 : sumL (x.map mg) = 0
  · rw [if_pos c4, chk_pos (by rw [List.length_replicate]; omega)]
    unfold nearL
    rw [if_pos c4]
    rfl
  obtain ⟨n0, n1⟩ := near_facts (x := x) (by omega) (k := k) (by omega) c4
  have ml : (x.map mg).length = x.length := by simp
  have h17 := pn_floors (N := N) (Z := x.map mg) (k := k) (S := sumL (x.map mg)) (by omega) (by omega) (by omega) (by omega) (get_map_mg x) N (x.map mg) [] [] k rfl rfl (by omega) (fun _ => ⟨by omega, by simp; omega⟩)
  rw [show (([] : List Int).length : Int) = 0 from rfl, List.nil_append, List.nil_append, ml] at h17
  rw [if_neg c4, ml, h17, obind_of]
  simp only
  have h22 := pn_grow (N := N) (Z := x.map mg) (k := k) (S := sumL (x.map mg)) (by omega) (by omega) (get_map_mg x) (by omega) (by omega) (by omega) (by omega) (by omega) N (k - sumL ((x.map mg).map fun z => k * z / sumL (x.map mg))).toNat _ (by simp) n1 (by omega) (by have := n1.le.1; omega)
  rw [show (((k - sumL ((x.map mg).map fun z => k * z / sumL (x.map mg))).toNat : Nat) : Int) = k - sumL ((x.map mg).map fun z => k * z / sumL (x.map mg)) by omega, ml] at h22
  rw [h22, obind_of]
  simp only
  obtain ⟨g1, g2, g3⟩ := grow_facts (x.map mg) k (sumL (x.map mg)) (n := x.length) (by omega) (k - sumL ((x.map mg).map fun z => k * z / sumL (x.map mg))).toNat ((x.map mg).map fun z => k * z / sumL (x.map mg)) (by simp) n1
  have h33 := pn_signs (N := N) (x := x) (by omega) N x [] [] _ rfl rfl g1 (fun i => ⟨g2 i, by have := g2.le.2 i; omega⟩) (by omega)
  rw [show (([] : List Int).length : Int) = 0 from rfl, List.nil_append, List.nil_append] at h33
  rw [h33, obind_of]
  unfold nearL
  rw [if_neg c4]
end
end Go.Pl
