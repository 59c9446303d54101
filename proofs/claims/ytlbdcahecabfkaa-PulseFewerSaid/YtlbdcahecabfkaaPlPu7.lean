/-
  Layer 9: pulses made fewer, by both books alike.
  Conditions: none.
-/
import Derived.Test.YtlbdcahecabfkaaPlPu6
set_option linter.unusedSimpArgs false
set_option linter.unusedVariables false
namespace Go.Pl
open Go.Eng Go.Proofs
structure Mx (Y : List Int) (p : Nat) : Prop where
  lt : p < Y.length
  mx : ∀ q, q < Y.length → ab (Y.getD q 0) < ab (Y.getD p 0) ∨ (ab (Y.getD q 0) = ab (Y.getD p 0) ∧ q ≤ p)
theorem Mx.one {Y : List Int} {p q : Nat} (h : Mx Y p) (k : Mx Y q) : p = q := by
  have h1 := h.mx q k.lt
  have h2 := k.mx p h.lt
  omega
def down (Y : List Int) (p : Nat) : List Int := Y.set p (if Y.getD p 0 > 0 then Y.getD p 0 - 1 else Y.getD p 0 + 1)
inductive Red (f : Int) : List Int → List Int → Prop
  | stop {Y : List Int} : cnt Y ≤ f → Red f Y Y
  | step {Y Z : List Int} {p : Nat} : f < cnt Y → Mx Y p → Red f (down Y p) Z → Red f Y Z
theorem Red.one {f : Int} {Y Z Z' : List Int} (h : Red f Y Z) (k : Red f Y Z') : Z = Z' := by
  induction h with
  | stop c =>
    cases k with
    | stop _ => rfl
    | step d _ _ => omega
  | step c m _ ih =>
    cases k with
    | stop d => omega
    | step _ m' k' => rw [m.one m'] at ih; exact ih k'
theorem down_len (Y : List Int) (p : Nat) : (down Y p).length = Y.length := by simp [down]
theorem Red.len {f : Int} {Y Z : List Int} (h : Red f Y Z) : Z.length = Y.length := by
  induction h with
  | stop _ => rfl
  | step _ _ _ ih => rw [ih, down_len]
theorem Red.cnt {f : Int} {Y Z : List Int} (h : Red f Y Z) : cnt Z ≤ f := by
  induction h with
  | stop c => exact c
  | step _ _ _ ih => exact ih
theorem Red.on {f g : Int} {Y Z W : List Int} (hf : g ≤ f) (h : Red f Y Z) (k : Red g Z W) : Red g Y W := by
  induction h with
  | stop _ => exact k
  | step c m _ ih => exact .step (by omega) m (ih k)
theorem set_get (l : List Int) (p k : Nat) (v : Int) : (l.set p v).getD k 0 = if p = k ∧ p < l.length then v else l.getD k 0 := by
  rw [List.getD_eq_getElem?_getD, List.getElem?_set]
  by_cases c : p = k
  · rw [if_pos c]
    by_cases d : p < l.length
    · rw [if_pos d, if_pos ⟨c, d⟩]; rfl
    · have e : l[k]? = none := List.getElem?_eq_none (by omega)
      rw [if_neg d, if_neg (fun h => d h.2), List.getD_eq_getElem?_getD, e]
  · rw [if_neg c, if_neg (fun h => c h.1), ← List.getD_eq_getElem?_getD]
theorem down_get (Y : List Int) (p k : Nat) : (down Y p).getD k 0 = if p = k ∧ p < Y.length then (if Y.getD p 0 > 0 then Y.getD p 0 - 1 else Y.getD p 0 + 1) else Y.getD k 0 := set_get _ _ _ _
def Tw (y z : Int) : Prop := (0 < z → z ≤ y) ∧ (z < 0 → y ≤ z)
def TwL (Y Z : List Int) : Prop := ∀ k : Nat, Tw (Y.getD k 0) (Z.getD k 0)
theorem TwL.rfl {Y : List Int} : TwL Y Y := fun _ => ⟨fun _ => Int.le_refl _, fun _ => Int.le_refl _⟩
theorem TwL.trans {X Y Z : List Int} (h : TwL X Y) (k : TwL Y Z) : TwL X Z := fun i => by
  have h1 := h i
  have h2 := k i
  unfold Tw at *
  omega
theorem TwL.down {Y : List Int} {p : Nat} (h0 : Y.getD p 0 ≠ 0) : TwL Y (down Y p) := fun k => by
  rw [down_get]
  by_cases c : p = k ∧ p < Y.length
  · rw [if_pos c]
    rw [c.1] at h0 ⊢
    by_cases d : Y.getD k 0 > 0
    · rw [if_pos d]; exact ⟨fun _ => by omega, fun _ => by omega⟩
    · rw [if_neg d]; exact ⟨fun _ => by omega, fun _ => by omega⟩
  · rw [if_neg c]; exact ⟨fun _ => Int.le_refl _, fun _ => Int.le_refl _⟩
theorem cnt_setE {v : Int} : ∀ (l : List Int) (i : Nat), i < l.length → cnt (l.set i v) = cnt l - ab (c32 (l.getD i 0)) + ab (c32 v)
  | [], i, h => by simp at h
  | x :: r, 0, _ => by
    have h1 : cnt (x :: r) = ab (c32 x) + cnt r := Eq.refl _
    have h2 : cnt ((x :: r).set 0 v) = ab (c32 v) + cnt r := Eq.refl _
    have h3 : (x :: r).getD 0 0 = x := Eq.refl _
    rw [h3]
    omega
  | x :: r, i + 1, h => by
    have h1 : cnt (x :: r) = ab (c32 x) + cnt r := Eq.refl _
    have h2 : cnt ((x :: r).set (i + 1) v) = ab (c32 x) + cnt (r.set i v) := Eq.refl _
    have h3 : (x :: r).getD (i + 1) 0 = r.getD i 0 := Eq.refl _
    have := cnt_setE (v := v) r i (by simpa using h)
    rw [h3]
    omega
theorem Bnd.c32 {Y : List Int} (h : Bnd Y) (p : Nat) : c32 (Y.getD p 0) = Y.getD p 0 := by
  have := h p
  unfold Pl.c32
  rw [if_neg (by omega), if_neg (by omega)]
theorem Bnd.down {Y : List Int} (h : Bnd Y) (p : Nat) : Bnd (down Y p) := fun k => by
  rw [down_get]
  have h1 := h p
  have h2 := h k
  split
  · split <;> omega
  · exact h2
theorem cnt_down {Y : List Int} (h : Bnd Y) {p : Nat} (hp : p < Y.length) (h0 : Y.getD p 0 ≠ 0) : cnt (down Y p) = cnt Y - 1 := by
  have h1 := h p
  have e := cnt_setE (v := if Y.getD p 0 > 0 then Y.getD p 0 - 1 else Y.getD p 0 + 1) Y p hp
  unfold Pl.down
  rw [e, h.c32]
  unfold Pl.c32 ab
  split <;> split <;> (try split) <;> (try split) <;> omega
theorem ab_pos (v : Int) : 0 ≤ ab v := by unfold ab; split <;> omega
theorem ab_zero {v : Int} (h : ab v = 0) : v = 0 := by unfold ab at h; split at h <;> omega
theorem cnt_zero : ∀ {l : List Int}, (∀ q : Nat, q < l.length → l.getD q 0 = 0) → cnt l = 0
  | [], _ => rfl
  | x :: r, h => by
    have h1 : cnt (x :: r) = ab (c32 x) + cnt r := rfl
    have h2 : x = 0 := h 0 (by simp)
    have h3 := cnt_zero (l := r) (fun q hq => h (q + 1) (by simpa using hq))
    rw [h1, h2, h3]
    decide
theorem Mx.ne {Y : List Int} {p : Nat} (m : Mx Y p) (hc : 0 < cnt Y) : Y.getD p 0 ≠ 0 := by
  intro h
  have : cnt Y = 0 := cnt_zero fun q hq => by
    have h1 := m.mx q hq
    have h2 := ab_pos (Y.getD q 0)
    have h3 : ab (Y.getD p 0) = 0 := by rw [h]; rfl
    exact ab_zero (by omega)
  omega
theorem Red.tw {f : Int} (f0 : 0 ≤ f) {Y Z : List Int} (h : Red f Y Z) : TwL Y Z := by
  induction h with
  | stop _ => exact TwL.rfl
  | step c m _ ih => exact (TwL.down (m.ne (by omega))).trans ih
section
variable {N : Nat}
theorem thin7 (hN : 30000 ≤ N) {f : Int} (f0 : 0 ≤ f) {n : Nat} (hn : n ≤ 480) : ∀ (nn : Nat) (Y a : List Int), Y.length = n → Bnd Y → Pm a n → Hp (sc Y a) n → cnt Y < nn →
    ∃ Z a', Rc.thin9.loop7 N nn f (cnt Y) Y a = some (Z, a') ∧ Red f Y Z
  | 0, Y, a, _, _, _, _, h => by
    have := (cnt_range Y).1
    omega
  | nn + 1, Y, a, hY, hb, hp, hh, h => by
    unfold Rc.thin9.loop7
    simp only [br_dec, chkI_same]
    by_cases c : cnt Y > f
    · have n0 : 0 < n := by
        by_cases e : n = 0
        · have : Y = [] := by simpa [e] using hY
          rw [this] at c
          have : cnt [] = 0 := rfl
          omega
        · omega
      have hl := hp.len
      have hr := hp.rng 0 n0
      obtain ⟨p, hpp⟩ := Int.eq_ofNat_of_zero_le hr.1
      have hpn : p < n := by omega
      have hm : Mx Y p := by
        refine ⟨by omega, fun q hq => ?_⟩
        obtain ⟨k, hk, e⟩ := hp.sur q (by omega)
        have ht := hh.top k hk
        unfold sc scr at ht
        rw [e, hpp, Int.toNat_natCast, Int.toNat_natCast] at ht
        omega
      have hne := hm.ne (by omega)
      have hcd := cnt_down hb hm.lt hne
      have hr1 := cnt_range Y
      have hbp := hb p
      have hdn : DnI (sc (down Y p) a) 0 n := by
        refine ⟨fun i i0 i1 hi => ?_, fun h => by omega⟩
        have same : ∀ k, 0 < k → k < n → sc (down Y p) a k = sc Y a k := fun k k0 k1 => by
          unfold sc scr
          rw [down_get, if_neg]
          rintro ⟨e, _⟩
          have rk := hp.rng k k1
          have := hp.inj 0 k n0 k1 (by rw [hpp]; omega)
          omega
        rw [same i i0 i1, same _ (by omega) (by omega)]
        exact hh i i0 i1
      have hbd := hb.down p
      obtain ⟨a2, k1, k2, k3⟩ := fix_F (N := N) hbd (by rw [down_len]; omega) (n := n) (by rw [down_len]; omega) hN hp n0 hdn
      obtain ⟨Z, a3, j1, j2⟩ := thin7 hN f0 hn nn (down Y p) a2 (by rw [down_len]; exact hY) hbd k2 k3 (by omega)
      rw [hcd] at j1
      refine ⟨Z, a3, ?_, .step c hm j2⟩
      rw [if_pos c, chk_pos (by omega)]
      simp only [show Int.toNat (0 : Int) = 0 from rfl, hpp, Int.toNat_natCast]
      rw [chk_pos (by omega), i64 (x := cnt Y - 1) (by omega) (by omega)]
      unfold Pl.down at k1 j1
      by_cases d : Y.getD p 0 > 0
      · rw [if_pos d] at k1 j1
        rw [if_pos d, chk_pos (by omega), chk_pos (by omega), i64 (x := Y.getD p 0 - 1) (by omega) (by omega), k1, obind_of]
        exact j1
      · rw [if_neg d] at k1 j1
        rw [if_neg d, chk_pos (by omega), chk_pos (by omega), i64 (x := Y.getD p 0 + 1) (by omega) (by omega), k1, obind_of]
        exact j1
    · rw [if_neg c]
      exact ⟨Y, a, rfl, .stop (by omega)⟩
theorem thin_F (hN : 30000 ≤ N) {f : Int} (f0 : 0 ≤ f) {Y : List Int} (hY : Y.length ≤ 480) (hb : Bnd Y) : ∃ Z, Rc.thin9.F N f Y = some Z ∧ Red f Y Z := by
  obtain ⟨a, k1, k2, k3⟩ := push_loop (N := N) hb hY hN N 0 [] Pm.nil (fun i i0 i1 => by omega) (by omega) (by omega)
  rw [show ((0 : Nat) : Int) = 0 from rfl] at k1
  have hr := cnt_range Y
  obtain ⟨Z, a', j1, j2⟩ := thin7 hN f0 hY N Y a rfl hb k2 k3 (by omega)
  unfold Rc.thin9.F
  rw [k1, obind_of, count9_F (by omega) (by omega), obind_of, j1, obind_of]
  exact ⟨Z, rfl, j2⟩
theorem getD_pre (P R : List Int) (j : Nat) : (P ++ R).getD (P.length + j) 0 = R.getD j 0 := by
  rw [List.getD_eq_getElem?_getD, List.getElem?_append_right (by omega), Nat.add_sub_cancel_left, ← List.getD_eq_getElem?_getD]
theorem getD_left (Y T : List Int) {j : Nat} (h : j < Y.length) : (Y ++ T).getD j 0 = Y.getD j 0 := by
  rw [List.getD_eq_getElem?_getD, List.getElem?_append_left h, ← List.getD_eq_getElem?_getD]
theorem getD_in (P Y T : List Int) {j : Nat} (h : j < Y.length) : (P ++ (Y ++ T)).getD (P.length + j) 0 = Y.getD j 0 := by
  rw [getD_pre, getD_left Y T h]
theorem look_loop {P Y T : List Int} (hb : Bnd Y) (hl : (P ++ (Y ++ T)).length ≤ 480) : ∀ (nn j q : Nat) (s : Int), j ≤ Y.length → q < Y.length → q ≤ j → (∀ t, t < j → ab (Y.getD t 0) < ab (Y.getD q 0) ∨ (ab (Y.getD t 0) = ab (Y.getD q 0) ∧ t ≤ q)) → 0 ≤ s → s ≤ 16 * (j : Int) → Y.length - j < nn →
    ∃ p : Nat, Rc.rfewer9.loop18 N nn ((P.length + Y.length : Nat) : Int) (P ++ (Y ++ T)) s ((P.length + q : Nat) : Int) ((P.length + j : Nat) : Int) = some (s + cnt (Y.drop j), ((P.length + p : Nat) : Int)) ∧ Mx Y p
  | 0, j, q, s, _, _, _, _, _, _, h => by omega
  | nn + 1, j, q, s, hj, hq, hqj, hm, s0, s1, h => by
    have hlen : (P ++ (Y ++ T)).length = P.length + (Y.length + T.length) := by simp
    have chkN_same : ∀ {X : Type} (x : Nat) (k : Option X), chkN x x k = k := fun x k => by simp [chkN]
    unfold Rc.rfewer9.loop18
    simp only [br_dec, chkI_same, chkL_same, chkN_same, Int.toNat_natCast]
    by_cases c : j < Y.length
    · have hcd := cnt_drop c
      rw [hb.c32] at hcd
      have bj := hb j
      have bq := hb q
      have aj : 0 ≤ ab (Y.getD j 0) ∧ ab (Y.getD j 0) ≤ 16 := by unfold ab; split <;> omega
      simp only [getD_in P Y T c, getD_in P Y T hq]
      rw [if_pos (by omega), chk_pos (by omega), rsize_F _ (by omega) (by omega), obind_of, chk_pos (by omega), obind_of, chk_pos (by omega), rsize_F _ (by omega) (by omega), obind_of, chk_pos (by omega), i64 (x := s + ab (Y.getD j 0)) (by omega) (by omega), i64 (x := ((P.length + j : Nat) : Int) + 1) (by omega) (by omega), show ((P.length + j : Nat) : Int) + 1 = ((P.length + (j + 1) : Nat) : Int) by omega, hcd, ← Int.add_assoc]
      by_cases d : ab (Y.getD j 0) ≥ ab (Y.getD q 0)
      · rw [if_pos d]
        exact look_loop hb hl nn (j + 1) j _ (by omega) c (by omega) (fun t ht => by
          by_cases e : t = j
          · rw [e]; exact Or.inr ⟨rfl, Nat.le_refl _⟩
          · have := hm t (by omega); omega) (by omega) (by omega) (by omega)
      · rw [if_neg d]
        exact look_loop hb hl nn (j + 1) q _ (by omega) hq (by omega) (fun t ht => by
          by_cases e : t = j
          · rw [e]; exact Or.inl (by omega)
          · exact hm t (by omega)) (by omega) (by omega) (by omega)
    · rw [if_neg (by omega), List.drop_eq_nil_of_le (by omega)]
      exact ⟨q, by simp [cnt, tot], ⟨hq, fun t ht => hm t (by omega)⟩⟩
theorem set_in (P Y T : List Int) {p : Nat} (h : p < Y.length) (v : Int) : (P ++ (Y ++ T)).set (P.length + p) v = P ++ (Y.set p v ++ T) := by
  rw [List.set_append_right _ _ (by omega), Nat.add_sub_cancel_left, List.set_append_left _ _ h]
theorem least_loop (hN : 30000 ≤ N) {f : Int} (f0 : 0 ≤ f) {P T : List Int} {n : Nat} (n0 : 0 < n) (hl : P.length + (n + T.length) ≤ 480) : ∀ (nn : Nat) (Y : List Int), Y.length = n → Bnd Y → cnt Y < nn →
    ∃ Z, Rc.rfewer9.loop15 N nn f (P.length : Int) ((P.length + n : Nat) : Int) (P ++ (Y ++ T)) = some (P ++ (Z ++ T)) ∧ Red f Y Z
  | 0, Y, _, _, h => by
    have := (cnt_range Y).1
    omega
  | nn + 1, Y, hY, hb, h => by
    have hlen : (P ++ (Y ++ T)).length = P.length + (Y.length + T.length) := by simp
    unfold Rc.rfewer9.loop15
    simp only [br_dec, chkI_same]
    obtain ⟨p, hp, hm⟩ := look_loop (N := N) (P := P) (T := T) hb (by omega) N 0 0 0 (by omega) (by omega) (by omega) (fun t ht => by omega) (by omega) (by omega) (by omega)
    rw [Nat.add_zero, List.drop_zero, Int.zero_add, hY] at hp
    rw [hp, obind_of]
    simp only [Int.toNat_natCast]
    by_cases c : cnt Y ≤ f
    · rw [if_pos c]
      exact ⟨Y, rfl, .stop c⟩
    · have hlt := hm.lt
      have hne := hm.ne (by omega)
      have hcd := cnt_down hb hlt hne
      have bp := hb p
      obtain ⟨Z, j1, j2⟩ := least_loop hN f0 n0 hl nn (down Y p) (by rw [down_len]; exact hY) (hb.down p) (by omega)
      refine ⟨Z, ?_, .step (by omega) hm j2⟩
      rw [if_neg c, chk_pos (by omega)]
      simp only [getD_in P Y T hlt, set_in P Y T hlt]
      unfold Pl.down at j1
      by_cases d : Y.getD p 0 > 0
      · rw [if_pos d] at j1
        rw [if_pos d, chk_pos (by omega), chk_pos (by omega), i64 (x := Y.getD p 0 - 1) (by omega) (by omega)]
        exact j1
      · rw [if_neg d] at j1
        rw [if_neg d, chk_pos (by omega), chk_pos (by omega), i64 (x := Y.getD p 0 + 1) (by omega) (by omega)]
        exact j1
end
end Go.Pl
