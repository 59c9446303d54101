/-
  Layer 9: fewer pulses over whole blocks; the laws.
  Conditions: none.
-/
import Derived.Test.YtlbdcahecabfkaaPlPu7
set_option linter.unusedSimpArgs false
set_option linter.unusedVariables false
namespace Go.Pl
open Go.Eng Go.Proofs
def c16 (v : Int) : Int := if v < -16 then -16 else if v > 16 then 16 else v
def cf (f : Int) : Int := if 16 < (if 0 > f then 0 else f) then 16 else (if 0 > f then 0 else f)
theorem cf_range (f : Int) : 0 ≤ cf f ∧ cf f ≤ 16 := by unfold cf; split <;> (try split) <;> omega
theorem cf_same {f : Int} (h0 : 0 ≤ f) (h1 : f ≤ 16) : cf f = f := by unfold cf; rw [if_neg (by omega), if_neg (by omega)]
theorem c16_range (v : Int) : -16 ≤ c16 v ∧ c16 v ≤ 16 := by unfold c16; split <;> (try split) <;> omega
theorem c16_same {v : Int} (h0 : -16 ≤ v) (h1 : v ≤ 16) : c16 v = v := by unfold c16; rw [if_neg (by omega), if_neg (by omega)]
section
variable {N : Nat}
theorem clamp16 (v : Int) : Rc.clamp.F N v (-16) 16 = some (c16 v) := by
  unfold Rc.clamp.F c16
  simp only [br_dec]
  rw [if_neg (by omega)]
  by_cases c1 : v < -16
  · rw [if_pos c1, if_pos c1]
  rw [if_neg c1, if_neg c1]
  by_cases c2 : v > 16
  · rw [if_pos c2, if_pos c2]
  · rw [if_neg c2, if_neg c2]
theorem rclamp16 (v : Int) : Rc.rclamp.F N v (-16) 16 = some (c16 v) := by
  unfold Rc.rclamp.F c16
  simp only [br_dec]
  by_cases c1 : v < -16
  · simp [c1]
  · by_cases c2 : v > 16
    · simp [c1, c2]
    · simp [c1, c2]
theorem rclampf (v : Int) : Rc.rclamp.F N v 0 16 = some (cf v) := by
  unfold Rc.rclamp.F cf
  simp only [br_dec]
  by_cases c1 : v < 0
  · simp [c1]
  · by_cases c2 : v > 16
    · have : ¬ (0 > v) := by omega
      simp [c1, c2]
    · have : ¬ (0 > v) := by omega
      simp [c1, c2]
end
theorem get_take {X : List Int} {n k : Nat} : (X.take n).getD k 0 = if k < n then X.getD k 0 else 0 := by
  rw [List.getD_eq_getElem?_getD, List.getElem?_take]
  split
  · rw [← List.getD_eq_getElem?_getD]
  · rfl
theorem get_drop {X : List Int} {n k : Nat} : (X.drop n).getD k 0 = X.getD (n + k) 0 := by
  rw [List.getD_eq_getElem?_getD, List.getElem?_drop, ← List.getD_eq_getElem?_getD]
theorem get_map (X : List Int) (k : Nat) : (X.map c16).getD k 0 = c16 (X.getD k 0) := by
  rw [List.getD_eq_getElem?_getD, List.getD_eq_getElem?_getD, List.getElem?_map]
  cases X[k]? with
  | none => rfl
  | some v => rfl
theorem Bnd.take {X : List Int} (h : Bnd X) (n : Nat) : Bnd (X.take n) := fun p => by
  rw [get_take]
  split
  · exact h p
  · omega
theorem Bnd.drop {X : List Int} (h : Bnd X) (n : Nat) : Bnd (X.drop n) := fun p => by
  rw [get_drop]
  exact h _
theorem Bnd.map (X : List Int) : Bnd (X.map c16) := fun p => by
  rw [get_map]
  exact c16_range _
def RB (f : Int) : Nat → List Int → List Int → Prop
  | 0, Y, Z => Z = Y
  | m + 1, Y, Z => Red f (Y.take 16) (Z.take 16) ∧ RB f m (Y.drop 16) (Z.drop 16)
theorem RB.nil {f : Int} (f0 : 0 ≤ f) : ∀ m, RB f m [] []
  | 0 => rfl
  | m + 1 => ⟨.stop f0, RB.nil f0 m⟩
theorem RB.one {f : Int} : ∀ {m : Nat} {Y Z Z' : List Int}, RB f m Y Z → RB f m Y Z' → Z = Z'
  | 0, _, _, _, h, k => Eq.trans h (Eq.symm k)
  | m + 1, _, Z, Z', h, k => by
    rw [← List.take_append_drop 16 Z, ← List.take_append_drop 16 Z', h.1.one k.1, RB.one h.2 k.2]
theorem RB.on {f g : Int} (hf : g ≤ f) : ∀ {m : Nat} {Y Z W : List Int}, RB f m Y Z → RB g m Z W → RB g m Y W
  | 0, _, _, _, h, k => Eq.trans k h
  | m + 1, _, _, _, h, k => ⟨h.1.on hf k.1, RB.on hf h.2 k.2⟩
theorem RB.okB {f : Int} (hf : f ≤ 16) : ∀ {m : Nat} {Y Z : List Int}, RB f m Y Z → okB m Z = true
  | 0, _, _, _ => rfl
  | m + 1, _, Z, h => by
    have := h.1.cnt
    simp only [Pl.okB]
    rw [decide_eq_true (show Pl.cnt (Z.take 16) ≤ 16 by omega), RB.okB hf h.2]
    rfl
theorem RB.self : ∀ {m : Nat} {Y : List Int}, Pl.okB m Y = true → RB 16 m Y Y
  | 0, _, _ => rfl
  | m + 1, Y, h => ⟨.stop (okB_head h).1, RB.self (okB_head h).2⟩
theorem TwL.glue {Y Z : List Int} (h : TwL (Y.take 16) (Z.take 16)) (k : TwL (Y.drop 16) (Z.drop 16)) : TwL Y Z := fun i => by
  by_cases c : i < 16
  · have := h i
    rw [get_take, get_take, if_pos c, if_pos c] at this
    exact this
  · have := k (i - 16)
    rw [get_drop, get_drop, show 16 + (i - 16) = i by omega] at this
    exact this
theorem RB.tw {f : Int} (f0 : 0 ≤ f) : ∀ {m : Nat} {Y Z : List Int}, RB f m Y Z → TwL Y Z
  | 0, Y, Z, h => by
    have e : Z = Y := h
    rw [e]
    exact TwL.rfl
  | m + 1, _, _, h => TwL.glue (h.1.tw f0) (RB.tw f0 h.2)
theorem cnt_mem {f : Int} : ∀ {l : List Int}, cnt l ≤ f → ∀ v ∈ l, ab (c32 v) ≤ f
  | [], _, v, hv => by simp at hv
  | x :: r, h, v, hv => by
    have e : cnt (x :: r) = ab (c32 x) + cnt r := rfl
    have hr := (cnt_range r).1
    have hx := c32_ab x
    rcases List.mem_cons.1 hv with rfl | hv
    · omega
    · exact cnt_mem (by omega) v hv
theorem okB_bnd : ∀ {m : Nat} {l : List Int}, Pl.okB m l = true → l.length ≤ 16 * m → ∀ v ∈ l, -16 ≤ v ∧ v ≤ 16
  | 0, l, _, hl, v, hv => by
    have : l = [] := by simpa using hl
    rw [this] at hv
    simp at hv
  | m + 1, l, h, hl, v, hv => by
    rw [← List.take_append_drop 16 l] at hv
    rcases List.mem_append.1 hv with hv | hv
    · have := cnt_mem (okB_head h).1 v hv
      unfold ab c32 at this
      constructor <;> (split at this <;> split at this <;> (try split at this) <;> omega)
    · exact okB_bnd (okB_head h).2 (by rw [List.length_drop]; omega) v hv
theorem RB.zero : ∀ {m : Nat} {Y Z : List Int}, RB 0 m Y Z → Z.length ≤ 16 * m → ∀ v ∈ Z, v = 0
  | 0, _, Z, _, hl, v, hv => by
    have : Z = [] := by simpa using hl
    rw [this] at hv
    simp at hv
  | m + 1, _, Z, h, hl, v, hv => by
    rw [← List.take_append_drop 16 Z] at hv
    rcases List.mem_append.1 hv with hv | hv
    · have := cnt_mem h.1.cnt v hv
      have h2 := c32_ab v
      unfold ab c32 at this
      split at this <;> split at this <;> (try split at this) <;> omega
    · exact RB.zero h.2 (by rw [List.length_drop]; omega) v hv
theorem map_c16 {l : List Int} (h : ∀ v ∈ l, -16 ≤ v ∧ v ≤ 16) : l.map c16 = l := by
  have : l.map c16 = l.map id := List.map_congr_left fun v hv => c16_same (h v hv).1 (h v hv).2
  rw [this, List.map_id]
theorem cut16 {Z1 Z2 : List Int} (h1 : Z1.length ≤ 16) (h : Z1.length = 16 ∨ Z2 = []) : (Z1 ++ Z2).take 16 = Z1 ∧ (Z1 ++ Z2).drop 16 = Z2 := by
  rcases h with h | h
  · exact ⟨List.take_left' h, List.drop_left' h⟩
  · subst h
    rw [List.append_nil]
    exact ⟨List.take_of_length_le h1, List.drop_eq_nil_of_le h1⟩
theorem take_len16 (Q : List Int) : (Q.take 16).length = min 16 Q.length := List.length_take
section
variable {N : Nat}
theorem fewer_blocks (hN : 30000 ≤ N) {f : Int} (f0 : 0 ≤ f) : ∀ (nn m k : Nat) (P Q : List Int), (k = P.length ∨ (Q = [] ∧ P.length ≤ k)) → k ≤ 600 → Q.length ≤ 16 * m → P.length + Q.length ≤ 480 → Bnd Q → m < nn →
    ∃ Z, Rc.fewer9.loop11 N nn f k (P ++ Q) = some (P ++ Z) ∧ RB f m Q Z ∧ Z.length = Q.length
  | 0, m, k, P, Q, _, _, _, _, _, h => by omega
  | nn + 1, 0, k, P, Q, hk, hk6, hQ, hl, hb, h => by
    have : Q = [] := by simpa using hQ
    subst this
    unfold Rc.fewer9.loop11
    simp only [br_dec]
    rw [if_neg (by simp; omega)]
    exact ⟨[], rfl, rfl, rfl⟩
  | nn + 1, m + 1, k, P, Q, hk, hk6, hQ, hl, hb, h => by
    unfold Rc.fewer9.loop11
    simp only [br_dec, chkI_same]
    by_cases c : Q.length = 0
    · have : Q = [] := by simpa using c
      subst this
      rw [if_neg (by simp; omega)]
      exact ⟨[], rfl, RB.nil f0 _, rfl⟩
    · have hkP : k = P.length := by
        rcases hk with h | h
        · exact h
        · rw [h.1] at c; simp at c
      subst hkP
      have hlen : (P ++ Q).length = P.length + Q.length := List.length_append
      have he : (if ((P ++ Q).length : Int) < IntKind.i64.wrap ((P.length : Int) + 16) then ((P ++ Q).length : Int) else IntKind.i64.wrap ((P.length : Int) + 16)) = ((P.length + min 16 Q.length : Nat) : Int) := by
        rw [i64 (by omega) (by omega), hlen]
        split <;> omega
      rw [if_pos (by omega)]
      simp only [he, Int.toNat_natCast]
      rw [i64 (x := (P.length : Int) + 16) (by omega) (by omega), chk_pos (by omega), chk_pos (by omega), chk_pos (by omega)]
      have e1 : List.take (P.length + min 16 Q.length - P.length) (List.drop P.length (P ++ Q)) = Q.take 16 := by
        rw [List.drop_left' rfl, Nat.add_sub_cancel_left, List.take_eq_take_iff]
        omega
      have e2 : List.drop (P.length + (P.length + min 16 Q.length - P.length)) (P ++ Q) = Q.drop 16 := by
        rw [Nat.add_sub_cancel_left, ← List.drop_drop, List.drop_left' rfl]
        by_cases d : Q.length ≤ 16
        · rw [List.drop_eq_nil_of_le (by omega), List.drop_eq_nil_of_le (by omega)]
        · rw [show min 16 Q.length = 16 by omega]
      rw [e1, e2, List.take_left' rfl]
      obtain ⟨Z1, j1, j2⟩ := thin_F (N := N) hN f0 (Y := Q.take 16) (by rw [take_len16]; omega) (hb.take 16)
      have hz1 := j2.len
      rw [take_len16] at hz1
      rw [j1, obind_of, ← List.append_assoc]
      obtain ⟨Z2, i1, i2, i3⟩ := fewer_blocks hN f0 nn m (P.length + 16) (P ++ Z1) (Q.drop 16) (by
        by_cases d : Q.length ≤ 16
        · exact Or.inr ⟨List.drop_eq_nil_of_le d, by rw [List.length_append]; omega⟩
        · exact Or.inl (by rw [List.length_append]; omega)) (by omega) (by rw [List.length_drop]; omega) (by rw [List.length_append, List.length_drop]; omega) (hb.drop 16) (by omega)
      rw [show ((P.length + 16 : Nat) : Int) = (P.length : Int) + 16 by omega] at i1
      rw [List.length_drop] at i3
      have hc := cut16 (Z1 := Z1) (Z2 := Z2) (by omega) (by
        by_cases d : Q.length ≤ 16
        · exact Or.inr (List.length_eq_zero_iff.1 (by omega))
        · exact Or.inl (by omega))
      refine ⟨Z1 ++ Z2, by rw [i1, List.append_assoc], ⟨by rw [hc.1]; exact j2, by rw [hc.2]; exact i2⟩, by rw [List.length_append]; omega⟩
theorem rfewer_blocks (hN : 30000 ≤ N) {f : Int} (f0 : 0 ≤ f) : ∀ (nn m k : Nat) (P Q : List Int), (k = P.length ∨ (Q = [] ∧ P.length ≤ k)) → k ≤ 600 → Q.length ≤ 16 * m → P.length + Q.length ≤ 480 → Bnd Q → m < nn →
    ∃ Z, Rc.rfewer9.loop10 N nn f k (P ++ Q) = some (P ++ Z) ∧ RB f m Q Z ∧ Z.length = Q.length
  | 0, m, k, P, Q, _, _, _, _, _, h => by omega
  | nn + 1, 0, k, P, Q, hk, hk6, hQ, hl, hb, h => by
    have : Q = [] := by simpa using hQ
    subst this
    unfold Rc.rfewer9.loop10
    simp only [br_dec]
    rw [if_neg (by simp; omega)]
    exact ⟨[], rfl, rfl, rfl⟩
  | nn + 1, m + 1, k, P, Q, hk, hk6, hQ, hl, hb, h => by
    unfold Rc.rfewer9.loop10
    simp only [br_dec, chkI_same]
    by_cases c : Q.length = 0
    · have : Q = [] := by simpa using c
      subst this
      rw [if_neg (by simp; omega)]
      exact ⟨[], rfl, RB.nil f0 _, rfl⟩
    · have hkP : k = P.length := by
        rcases hk with h | h
        · exact h
        · rw [h.1] at c; simp at c
      subst hkP
      have hlen : (P ++ Q).length = P.length + Q.length := List.length_append
      have hr := cnt_range (Q.take 16)
      have ht := take_len16 Q
      obtain ⟨Z1, j1, j2⟩ := least_loop (N := N) hN f0 (P := P) (T := Q.drop 16) (n := min 16 Q.length) (by omega) (by rw [List.length_drop]; omega) N (Q.take 16) ht (hb.take 16) (by omega)
      rw [List.take_append_drop] at j1
      have hz1 := j2.len
      rw [take_len16] at hz1
      obtain ⟨Z2, i1, i2, i3⟩ := rfewer_blocks hN f0 nn m (P.length + 16) (P ++ Z1) (Q.drop 16) (by
        by_cases d : Q.length ≤ 16
        · exact Or.inr ⟨List.drop_eq_nil_of_le d, by rw [List.length_append]; omega⟩
        · exact Or.inl (by rw [List.length_append]; omega)) (by omega) (by rw [List.length_drop]; omega) (by rw [List.length_append, List.length_drop]; omega) (hb.drop 16) (by omega)
      rw [show ((P.length + 16 : Nat) : Int) = (P.length : Int) + 16 by omega, List.append_assoc] at i1
      rw [List.length_drop] at i3
      have hc := cut16 (Z1 := Z1) (Z2 := Z2) (by omega) (by
        by_cases d : Q.length ≤ 16
        · exact Or.inr (List.length_eq_zero_iff.1 (by omega))
        · exact Or.inl (by omega))
      refine ⟨Z1 ++ Z2, ?_, ⟨by rw [hc.1]; exact j2, by rw [hc.2]; exact i2⟩, by rw [List.length_append]; omega⟩
      rw [if_pos (by omega), i64 (x := (P.length : Int) + 16) (by omega) (by omega)]
      by_cases d : (P.length : Int) + 16 > ((P ++ Q).length : Int)
      · rw [if_pos d, show (((P ++ Q).length : Nat) : Int) = ((P.length + min 16 Q.length : Nat) : Int) by omega, j1, obind_of, i1, List.append_assoc]
      · rw [if_neg d, show (P.length : Int) + 16 = ((P.length + min 16 Q.length : Nat) : Int) by omega, j1, obind_of, show ((P.length + min 16 Q.length : Nat) : Int) = (P.length : Int) + 16 by omega, i1, List.append_assoc]
theorem clamp_loop (hN : 30000 ≤ N) {n : Nat} (hn : n ≤ 480) : ∀ (nn : Nat) (R A : List Int), A.length + R.length = n → R.length < nn →
    Rc.fewer9.loop6 N nn n (A ++ R) A.length (A.map c16 ++ List.replicate R.length 0) = some ((A ++ R).map c16)
  | 0, R, A, _, h => by omega
  | nn + 1, [], A, hA, h => by
    simp only [List.length_nil] at hA
    unfold Rc.fewer9.loop6
    simp only [br_dec]
    rw [if_neg (by omega)]
    simp
  | nn + 1, v :: R, A, hA, h => by
    simp only [List.length_cons] at hA h
    unfold Rc.fewer9.loop6
    simp only [br_dec, chkI_same, chkL_same, Int.toNat_natCast]
    have hg : (A ++ v :: R).getD A.length 0 = v := get_mid rfl
    rw [if_pos (by omega), chk_pos (by simp; omega), hg, clamp16, obind_of, chk_pos (by simp; omega), List.length_cons, List.replicate_succ, set_mid (by simp), i64 (x := (A.length : Int) + 1) (by omega) (by omega)]
    have ih := clamp_loop hN hn nn R (A ++ [v]) (by simp; omega) (by omega)
    rw [List.length_append, List.length_singleton, show ((A.length + 1 : Nat) : Int) = (A.length : Int) + 1 by omega, List.map_append, List.append_assoc, List.append_assoc] at ih
    exact ih
theorem rclamp_loop (hN : 30000 ≤ N) : ∀ (nn : Nat) (R A : List Int), A.length + R.length ≤ 480 → R.length < nn →
    Rc.rfewer9.loop6 N nn (A ++ R) A.length (A.map c16) = some ((A ++ R).map c16)
  | 0, R, A, _, h => by omega
  | nn + 1, [], A, hA, h => by
    unfold Rc.rfewer9.loop6
    simp only [br_dec]
    rw [if_neg (by simp)]
    simp
  | nn + 1, v :: R, A, hA, h => by
    simp only [List.length_cons] at hA h
    unfold Rc.rfewer9.loop6
    simp only [br_dec, chkI_same, chkL_same, Int.toNat_natCast]
    have hg : (A ++ v :: R).getD A.length 0 = v := get_mid rfl
    rw [if_pos (by simp; omega), chk_pos (by simp; omega), hg, rclamp16, obind_of, chk_pos (by simp; omega), i64 (x := (A.length : Int) + 1) (by omega) (by omega)]
    have ih := rclamp_loop hN nn R (A ++ [v]) (by simp; omega) (by omega)
    rw [List.length_append, List.length_singleton, show ((A.length + 1 : Nat) : Int) = (A.length : Int) + 1 by omega, List.map_append, List.append_assoc] at ih
    exact ih
def bk (l : List Int) : Nat := (l.length + 15) / 16
theorem fewer_F (hN : 30000 ≤ N) (f : Int) {l : List Int} (hl : l.length ≤ 480) : ∃ Z, Rc.fewer9.F N f l = some Z ∧ RB (cf f) (bk l) (l.map c16) Z ∧ Z.length = l.length := by
  unfold Rc.fewer9.F
  simp only [br_dec]
  have h6 := clamp_loop (N := N) hN hl N l [] (by simp) (by omega)
  simp only [List.nil_append, List.map_nil, List.length_nil] at h6
  rw [show ((0 : Nat) : Int) = 0 from rfl] at h6
  obtain ⟨Z, i1, i2, i3⟩ := fewer_blocks (N := N) hN (cf_range f).1 N (bk l) 0 [] (l.map c16) (Or.inl rfl) (by omega) (by rw [List.length_map]; unfold bk; omega) (by rw [List.length_map, List.length_nil]; omega) (Bnd.map l) (by unfold bk; omega)
  simp only [List.nil_append] at i1
  rw [show ((0 : Nat) : Int) = 0 from rfl] at i1
  rw [if_neg (by omega), chk_pos (by omega), Int.toNat_natCast, h6, obind_of]
  have i1' : Rc.fewer9.loop11 N N (if (16 : Int) < (if (0 : Int) > f then (0 : Int) else f) then (16 : Int) else if (0 : Int) > f then (0 : Int) else f) 0 (l.map c16) = some Z := i1
  rw [i1', obind_of]
  exact ⟨Z, rfl, i2, by rw [i3, List.length_map]⟩
theorem rfewer_F (hN : 30000 ≤ N) (f : Int) {l : List Int} (hl : l.length ≤ 480) : ∃ Z, Rc.rfewer9.F N f l = some Z ∧ RB (cf f) (bk l) (l.map c16) Z ∧ Z.length = l.length := by
  unfold Rc.rfewer9.F
  simp only [br_dec]
  have h6 := rclamp_loop (N := N) hN N l [] (by simpa using hl) (by omega)
  simp only [List.nil_append, List.map_nil, List.length_nil] at h6
  rw [show ((0 : Nat) : Int) = 0 from rfl] at h6
  obtain ⟨Z, i1, i2, i3⟩ := rfewer_blocks (N := N) hN (cf_range f).1 N (bk l) 0 [] (l.map c16) (Or.inl rfl) (by omega) (by rw [List.length_map]; unfold bk; omega) (by rw [List.length_map, List.length_nil]; omega) (Bnd.map l) (by unfold bk; omega)
  simp only [List.nil_append] at i1
  rw [show ((0 : Nat) : Int) = 0 from rfl] at i1
  rw [if_neg (by omega), rclampf, obind_of, h6, obind_of, i1, obind_of]
  exact ⟨Z, rfl, i2, by rw [i3, List.length_map]⟩
theorem tw_loop {l Z : List Int} {most : Int} {l0 : List Int} (hl : l.length ≤ 480) (hz : Z.length = l.length) (ht : TwL l Z) (s : Bool) : ∀ (nn k : Nat), k ≤ Z.length → Z.length - k < nn → Rc.pulseFewer.loop11 N l0 most nn l Z k s = some (.inl s)
  | 0, k, _, h => by omega
  | nn + 1, k, hk, h => by
    unfold Rc.pulseFewer.loop11
    simp only [br_dec, chkL_same, Int.toNat_natCast]
    by_cases c : k < Z.length
    · have ih := tw_loop (most := most) (l0 := l0) hl hz ht s nn (k + 1) (by omega) (by omega)
      rw [show ((k + 1 : Nat) : Int) = (k : Int) + 1 by omega] at ih
      have hk2 := ht k
      unfold Tw at hk2
      rw [if_pos (by omega), chk_pos (by omega), i64 (x := (k : Int) + 1) (by omega) (by omega)]
      by_cases d : Z.getD k 0 > 0
      · rw [if_pos d, chk_pos (by omega), chk_pos (by omega), if_neg (by omega), chk_pos (by omega), if_neg (by omega)]
        exact ih
      · rw [if_neg d, chk_pos (by omega)]
        by_cases e : Z.getD k 0 < 0
        · rw [if_pos e, chk_pos (by omega), chk_pos (by omega), if_neg (by omega)]
          exact ih
        · rw [if_neg e]
          exact ih
    · rw [if_neg (by omega)]
end
theorem tw_c16 (l : List Int) : TwL l (l.map c16) := fun k => by
  rw [get_map]
  unfold Tw c16
  by_cases c1 : l.getD k 0 < -16
  · rw [if_pos c1]; exact ⟨fun _ => by omega, fun _ => by omega⟩
  rw [if_neg c1]
  by_cases c2 : l.getD k 0 > 16
  · rw [if_pos c2]; exact ⟨fun _ => by omega, fun _ => by omega⟩
  · rw [if_neg c2]; exact ⟨fun _ => Int.le_refl _, fun _ => Int.le_refl _⟩
theorem pulseFewer_pure (l : List Int) (most : Int) : ∃ N, Rc.pulseFewer.F N l most = some true := by
  refine ⟨30000, ?_⟩
  have hN : 30000 ≤ 30000 := Nat.le_refl _
  unfold Rc.pulseFewer.F
  rw [awake9_F (by omega), obind_of]
  simp only [br_not, if_true, br_dec, br_beq, br_bne, List.nil_append, List.length_nil, Nat.zero_add]
  by_cases k1 : l.length > 600
  · rw [if_pos (by omega)]
  rw [if_neg (by omega), chk_pos (by omega)]
  by_cases k2 : l.length > 480
  · have h1 : Rc.fewer9.F 30000 most l = some [] := by
      unfold Rc.fewer9.F
      simp only [br_dec]
      rw [if_pos (by omega)]
    have h2 : Rc.rfewer9.F 30000 most l = some [] := by
      unfold Rc.rfewer9.F
      simp only [br_dec]
      rw [if_pos (by omega)]
    rw [h1, obind_of, h2, obind_of, same9_F _ _ (by simp) (by simp), obind_of, decide_eq_true rfl, if_pos rfl, if_pos (by omega)]
    rfl
  obtain ⟨Z, h1, h2, h3⟩ := fewer_F hN most (l := l) (by omega)
  obtain ⟨Z', k1', k2', k3'⟩ := rfewer_F hN most (l := l) (by omega)
  have e := h2.one k2'
  subst e
  have hr := cf_range most
  rw [h1, obind_of, k1', obind_of, same9_F _ _ (by omega) (by omega), obind_of, decide_eq_true rfl, if_pos rfl, if_neg (by omega)]
  have ht := tw_loop (N := 30000) (most := most) (l0 := l) (l := l) (Z := Z) (by omega) h3 ((tw_c16 l).trans (h2.tw hr.1)) false 30000 0 (by omega) (by omega)
  rw [show ((0 : Nat) : Int) = 0 from rfl] at ht
  rw [ht, osum_inl, Int.tmod_eq_emod_of_nonneg (by omega)]
  by_cases c3 : l.length % 16 = 0
  · rw [if_pos (by omega)]
    by_cases c4 : l.length = 0
    · rw [if_pos (by omega)]
    · rw [if_neg (by omega), good9_F _ hN, obind_of]
      have ho := h2.okB hr.2
      have : goodB Z = true := by
        unfold goodB mayB
        rw [h3, decide_eq_true (show 16 ≤ l.length by omega), decide_eq_true (show l.length ≤ 480 by omega), decide_eq_true c3, show l.length / 16 = bk l by unfold bk; omega, ho]
        rfl
      rw [this]
  · rw [if_neg (by omega)]
theorem pulseLeast_pure (l : List Int) (a b : Int) : ∃ N, Rc.pulseLeast.F N l a b = some true := by
  refine ⟨30000, ?_⟩
  have hN : 30000 ≤ 30000 := Nat.le_refl _
  unfold Rc.pulseLeast.F
  rw [awake9_F (by omega), obind_of]
  simp only [br_not, if_true, br_dec]
  rw [good9_F _ hN, obind_of]
  by_cases g : goodB l = true
  · rw [if_pos g]
    unfold goodB mayB at g
    simp only [Bool.and_eq_true, decide_eq_true_eq] at g
    obtain ⟨⟨g1, g2, g3⟩, g4⟩ := g
    have hbk : l.length / 16 = bk l := by unfold bk; omega
    have hlb : l.length ≤ 16 * bk l := by unfold bk; omega
    rw [hbk] at g4
    by_cases c1 : a < b
    · rw [if_pos c1]
    rw [if_neg c1]
    by_cases c2 : b < 0
    · rw [if_pos c2]
    rw [if_neg c2]
    by_cases c3 : a > 16
    · rw [if_pos c3]
    rw [if_neg c3]
    have hm := map_c16 (okB_bnd g4 hlb)
    obtain ⟨Z1, h1, r1, n1⟩ := fewer_F hN 16 (l := l) g2
    obtain ⟨Z0, h0, r0, n0⟩ := fewer_F hN 0 (l := l) g2
    obtain ⟨Za, ha, ra, na⟩ := fewer_F hN a (l := l) g2
    obtain ⟨Zb, hb, rb, nb⟩ := fewer_F hN b (l := l) g2
    obtain ⟨Zc, hc, rc, nc⟩ := fewer_F hN b (l := Za) (by omega)
    have hba : bk Za = bk l := by unfold bk; rw [na]
    have e16 : cf 16 = 16 := rfl
    have e0 : cf 0 = 0 := rfl
    rw [e16, hm] at r1
    rw [e0, hm] at r0
    rw [cf_same (by omega) (by omega), hm] at ra rb
    rw [cf_same (by omega) (by omega), hba, map_c16 (okB_bnd (ra.okB (by omega)) (by omega))] at rc
    have q1 : Z1 = l := r1.one (RB.self g4)
    have q0 : Z0 = List.replicate l.length 0 := List.eq_replicate_iff.2 ⟨n0, r0.zero (by omega)⟩
    have qc : Zc = Zb := (ra.on (by omega) rc).one rb
    subst q1
    rw [h1, obind_of, h0, obind_of, ha, obind_of, hc, obind_of, same9_F _ _ (by omega) (by omega), obind_of, decide_eq_true rfl, br_true, chk_pos (by omega), Int.toNat_natCast, same9_F _ _ (by omega) (by omega), obind_of, decide_eq_true q0, br_true, hb, obind_of, same9_F _ _ (by omega) (by omega), obind_of, decide_eq_true qc]
  · rw [if_neg g]
end Go.Pl
