/-
  Layer 9: pulses that may be; pulses are read by both in one way.
  Conditions: none.
-/
import Derived.Test.YtlbdcahecabfkaaPlPu2
set_option linter.unusedSimpArgs false
set_option linter.unusedVariables false
namespace Go.Pl
open Go.Eng Go.Proofs
def ab (v : Int) : Int := if v < 0 then -v else v
def c32 (v : Int) : Int := if v < -32 then -32 else if v > 32 then 32 else v
def cnt (l : List Int) : Int := tot (l.map fun v => ab (c32 v))
theorem c32_ab (v : Int) : 0 ≤ ab (c32 v) ∧ ab (c32 v) ≤ 32 := by
  unfold ab c32
  split <;> split <;> (try split) <;> omega
theorem cnt_range : ∀ l : List Int, 0 ≤ cnt l ∧ cnt l ≤ 32 * l.length
  | [] => by simp [cnt, tot]
  | v :: r => by
    have h1 := c32_ab v
    have h2 := cnt_range r
    simp only [cnt, List.map_cons, tot, List.length_cons] at h2 ⊢
    omega
theorem cnt_app (a b : List Int) : cnt (a ++ b) = cnt a + cnt b := by simp [cnt, tot_app]
section
variable {N : Nat}
theorem abs9_F {v : Int} (h0 : -100 ≤ v) (h1 : v ≤ 100) : Rc.abs9.F N v = some (ab v) := by
  unfold Rc.abs9.F ab
  rw [i64 (x := 0 - v) (by omega) (by omega)]
  by_cases c : v < 0
  · rw [if_pos c, if_pos (show 0 - v > v by omega), Int.zero_sub]
  · rw [if_neg c]
    by_cases d : 0 - v > v
    · omega
    · rw [if_neg d]
theorem clamp32 (v : Int) : Rc.clamp.F N v (-32) 32 = some (c32 v) := by
  unfold Rc.clamp.F c32
  simp only [br_dec]
  rw [if_neg (by omega)]
  by_cases c1 : v < -32
  · rw [if_pos c1, if_pos c1]
  rw [if_neg c1, if_neg c1]
  by_cases c2 : v > 32
  · rw [if_pos c2, if_pos c2]
  · rw [if_neg c2, if_neg c2]
theorem drop_cons {l : List Int} {k : Nat} (h : k < l.length) : l.drop k = l.getD k 0 :: l.drop (k + 1) := by
  rw [List.drop_eq_getElem_cons h, List.getD_eq_getElem?_getD, List.getElem?_eq_getElem h]
  rfl
theorem cnt_drop {l : List Int} {k : Nat} (h : k < l.length) : cnt (l.drop k) = ab (c32 (l.getD k 0)) + cnt (l.drop (k + 1)) := by
  rw [drop_cons h]
  rfl
theorem count_loop {l : List Int} (hl : l.length ≤ 1000000) : ∀ (nn k : Nat) (s : Int), k ≤ l.length → l.length - k < nn → 0 ≤ s → (True → s ≤ 32 * k) → Rc.count9.loop3 N nn l.length l s k = some (s + cnt (l.drop k))
  | 0, k, s, _, h, _, _ => by omega
  | nn + 1, k, s, hk, h, s0, s1 => by
    have s1 := s1 trivial
    unfold Rc.count9.loop3
    simp only [br_dec, chkI_same, chkL_same]
    by_cases c : k < l.length
    · have hr := c32_ab (l.getD k 0)
      have hb : -100 ≤ c32 (l.getD k 0) ∧ c32 (l.getD k 0) ≤ 100 := by unfold c32; split <;> (try split) <;> omega
      rw [if_pos (by omega), chk_pos (by omega), Int.toNat_natCast, clamp32, obind_of, abs9_F hb.1 hb.2, obind_of, i64 (by omega) (by omega), i64 (by omega) (by omega)]
      have ih := count_loop hl nn (k + 1) (s + ab (c32 (l.getD k 0))) (by omega) (by omega) (by omega) (fun _ => by omega)
      rw [show ((k + 1 : Nat) : Int) = (k : Int) + 1 by omega] at ih
      rw [ih, cnt_drop c]
      congr 1
      omega
    · rw [if_neg (by omega), List.drop_eq_nil_of_le (by omega)]
      simp [cnt, tot]
theorem count9_F {l : List Int} (hl : l.length ≤ 1000000) (hN : l.length < N) : Rc.count9.F N l = some (cnt l) := by
  unfold Rc.count9.F
  have := count_loop (N := N) hl N 0 0 (by omega) (by omega) (by omega) (fun _ => by omega)
  rw [show ((0 : Nat) : Int) = 0 from rfl] at this
  rw [this, obind_of, List.drop_zero, Int.zero_add]
end
def okB : Nat → List Int → Bool
  | 0, _ => true
  | m + 1, l => decide (cnt (l.take 16) ≤ 16) && okB m (l.drop 16)
theorem okB_snoc : ∀ {i : Nat} {o Y : List Int}, o.length = 16 * i → Y.length = 16 → okB i o = true → cnt Y ≤ 16 → okB (i + 1) (o ++ Y) = true
  | 0, o, Y, h, hY, _, hc => by
    have : o = [] := by simpa using h
    subst this
    simp only [okB, List.nil_append, Bool.and_true]
    have e : Y.take 16 = Y := List.take_of_length_le (by omega)
    simp only [e]
    simpa using hc
  | i + 1, o, Y, h, hY, ho, hc => by
    simp only [okB, Bool.and_eq_true] at ho
    have ih := okB_snoc (i := i) (o := o.drop 16) (by rw [List.length_drop]; omega) hY ho.2 hc
    rw [show okB (i + 1 + 1) (o ++ Y) = (decide (cnt ((o ++ Y).take 16) ≤ 16) && okB (i + 1) ((o ++ Y).drop 16)) from rfl, List.take_append_of_le_length (by omega), List.drop_append_of_le_length (by omega), ih, ho.1]
    rfl
def mayB (n : Nat) : Bool := decide (16 ≤ n) && (decide (n ≤ 480) && decide (n % 16 = 0))
def goodB (l : List Int) : Bool := mayB l.length && okB (l.length / 16) l
section
variable {N : Nat}
theorem pmay_F (n : Int) : Rc.pmay9.F N n = some (decide (16 ≤ n) && (decide (n ≤ 480) && decide (n % 16 = 0))) := by
  unfold Rc.pmay9.F
  simp only [br_dec]
  by_cases c1 : n ≥ 16
  · rw [if_pos c1]
    by_cases c2 : n ≤ 480
    · rw [if_pos c2, Int.tmod_eq_emod_of_nonneg (by omega)]
      simp only [show decide (16 ≤ n) = true by simpa using c1, show decide (n ≤ 480) = true by simpa using c2, Bool.true_and]
      rfl
    · rw [if_neg c2]
      simp [c2]
  · rw [if_neg c1]
    simp only [show decide (16 ≤ n) = false by simpa using c1, Bool.false_and]
theorem pmay_nat (n : Nat) : Rc.pmay9.F N (n : Int) = some (mayB n) := by
  rw [pmay_F]
  unfold mayB
  congr 1
  have e1 : (16 ≤ (n : Int)) ↔ 16 ≤ n := by omega
  have e2 : ((n : Int) ≤ 480) ↔ n ≤ 480 := by omega
  have e3 : ((n : Int) % 16 = 0) ↔ n % 16 = 0 := by omega
  simp only [e1, e2, e3]
theorem good9_loop {l e : List Int} (hl : l.length ≤ 480) (hN : 30000 ≤ N) (s : Bool) : ∀ (nn m k : Nat), k + 16 * m = l.length → m < nn →
    (okB m (l.drop k) = true → Rc.good9.loop4 N nn e l k s = some (.inl s)) ∧ (okB m (l.drop k) = false → Rc.good9.loop4 N nn e l k s = some (.inr false))
  | 0, m, k, _, h => by omega
  | nn + 1, 0, k, hk, h => by
    unfold Rc.good9.loop4
    simp only [br_dec]
    rw [if_neg (by omega)]
    exact ⟨fun _ => rfl, fun h => by simp [okB] at h⟩
  | nn + 1, m + 1, k, hk, h => by
    unfold Rc.good9.loop4
    simp only [br_dec, chkL_same]
    rw [if_pos (by omega), i64 (x := (k : Int) + 16) (by omega) (by omega), chk_pos (by omega), chk_pos (by omega), show ((k : Int) + 16).toNat = k + 16 by omega, Int.toNat_natCast, show k + 16 - k = 16 by omega, count9_F (by rw [List.length_take, List.length_drop]; omega) (by rw [List.length_take, List.length_drop]; omega), obind_of]
    have ih := good9_loop (e := e) hl hN s nn m (k + 16) (by omega) (by omega)
    rw [show ((k + 16 : Nat) : Int) = (k : Int) + 16 by omega] at ih
    have hok : okB (m + 1) (l.drop k) = (decide (cnt ((l.drop k).take 16) ≤ 16) && okB m (l.drop (k + 16))) := by simp only [okB, List.drop_drop]
    rw [hok]
    by_cases c : cnt ((l.drop k).take 16) ≤ 16
    · rw [if_neg (show ¬ cnt ((l.drop k).take 16) > 16 by omega), decide_eq_true c]
      simpa using ih
    · rw [if_pos (show cnt ((l.drop k).take 16) > 16 by omega), decide_eq_false c]
      exact ⟨fun h => by simp at h, fun _ => rfl⟩
theorem good9_F (l : List Int) (hN : 30000 ≤ N) : Rc.good9.F N l = some (goodB l) := by
  unfold Rc.good9.F goodB
  rw [pmay_nat, obind_of, br_not]
  cases hm : mayB l.length with
  | false => rfl
  | true =>
    simp only [mayB, Bool.and_eq_true, decide_eq_true_eq] at hm
    have h := good9_loop (N := N) (l := l) (e := l) (by omega) hN false N (l.length / 16) 0 (by omega) (by omega)
    rw [show ((0 : Nat) : Int) = 0 from rfl, List.drop_zero] at h
    rw [if_pos rfl, Bool.true_and]
    cases ho : okB (l.length / 16) l with
    | true => rw [h.1 ho]; rfl
    | false => rw [h.2 ho]; rfl
theorem same_loop {a b e1 e2 : List Int} (hab : a.length = b.length) (hl : a.length ≤ 1000000) (s : Bool) : ∀ (nn k : Nat), k ≤ a.length → a.length - k < nn →
    (a.drop k = b.drop k → Rc.same9.loop4 N nn e1 e2 a b k s = some (.inl s)) ∧ (a.drop k ≠ b.drop k → Rc.same9.loop4 N nn e1 e2 a b k s = some (.inr false))
  | 0, k, _, h => by omega
  | nn + 1, k, hk, h => by
    unfold Rc.same9.loop4
    simp only [br_dec, br_bne, chkL_same]
    by_cases c : k < a.length
    · have ih := same_loop (e1 := e1) (e2 := e2) hab hl s nn (k + 1) (by omega) (by omega)
      rw [show ((k + 1 : Nat) : Int) = (k : Int) + 1 by omega] at ih
      rw [if_pos (by omega), chk_pos (by omega), chk_pos (by omega), Int.toNat_natCast, i64 (by omega) (by omega), drop_cons c, drop_cons (show k < b.length by omega)]
      by_cases d : a.getD k 0 = b.getD k 0
      · rw [if_pos d, d]
        refine ⟨fun he => ih.1 (List.cons.inj he).2, fun he => ih.2 fun h2 => he (by rw [h2])⟩
      · rw [if_neg d]
        exact ⟨fun he => absurd (List.cons.inj he).1 d, fun _ => rfl⟩
    · rw [if_neg (by omega)]
      exact ⟨fun _ => rfl, fun he => absurd (by rw [List.drop_eq_nil_of_le (by omega), List.drop_eq_nil_of_le (by omega)]) he⟩
theorem same9_F (a b : List Int) (hl : a.length ≤ 1000000) (hN : a.length < N) : Rc.same9.F N a b = some (decide (a = b)) := by
  unfold Rc.same9.F
  rw [br_bne]
  by_cases c : a.length = b.length
  · rw [if_pos (by omega)]
    have h := same_loop (N := N) (e1 := a) (e2 := b) c hl false N 0 (by omega) (by omega)
    rw [show ((0 : Nat) : Int) = 0 from rfl, List.drop_zero, List.drop_zero] at h
    by_cases d : a = b
    · rw [h.1 d, osum_inl, decide_eq_true d]
    · rw [h.2 d, decide_eq_false d]; rfl
  · rw [if_neg (by omega), decide_eq_false (fun h => c (by rw [h]))]
end
theorem sgn_cnt {b : List Int} : ∀ (X : List Int) (w : W), (∀ x ∈ X, 0 ≤ x ∧ x ≤ 16) → cnt (sgn b X w).1 = tot X
  | [], w, _ => rfl
  | v :: r, w, h => by
    have hv := h v (by simp)
    have ih := fun w' => sgn_cnt (b := b) r w' (fun x hx => h x (by simp [hx]))
    simp only [sgn]
    split
    · have : cnt ((if w.val b 1 = 1 then 0 - v else v) :: (sgn b r (w.next b 1)).1) = ab (c32 (if w.val b 1 = 1 then 0 - v else v)) + cnt (sgn b r (w.next b 1)).1 := rfl
      simp only
      rw [this, ih, tot]
      congr 1
      unfold ab c32
      split <;> split <;> (try split) <;> (try split) <;> omega
    · have : cnt (v :: (sgn b r w).1) = ab (c32 v) + cnt (sgn b r w).1 := rfl
      simp only
      rw [this, ih, tot]
      congr 1
      unfold ab c32
      split <;> split <;> (try split) <;> (try split) <;> omega
theorem blks_good {b : List Int} (hb : Bytes b) : ∀ (n : Nat) (q : Q) (w : W) (C : Int) (o : List Int) (i : Nat), q.Ok → w.Ok → o.length = 16 * i → okB i o = true → okB (i + n) (blks b n q w C o).2.2.2 = true
  | 0, q, w, C, o, i, h, hw, ho, hk => hk
  | n + 1, q, w, C, o, i, h, hw, ho, hk => by
    obtain ⟨a1, a2, a3, a4, a5, a6⟩ := bsh_facts hb h
    obtain ⟨s1, s2, s3, s4⟩ := sgn_facts hb (bsh b q).2 w hw
    have := blks_good hb n (bsh b q).1 (sgn b (bsh b q).2 w).2.1 (C + (sgn b (bsh b q).2 w).2.2) (o ++ (sgn b (bsh b q).2 w).1) (i + 1) a1 s1 (by rw [List.length_append, s2, a4]; omega)
      (okB_snoc ho (by rw [s2, a4]) hk (by rw [sgn_cnt _ _ a5]; exact a6))
    rw [show i + 1 + n = i + (n + 1) by omega] at this
    exact this
end Go.Pl
