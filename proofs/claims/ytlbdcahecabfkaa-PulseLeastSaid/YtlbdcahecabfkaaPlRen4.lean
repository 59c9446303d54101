/-
  Chapter 4 in plain words: numbers that are small as a rule.
  Conditions: none.
-/
import Derived.Test.YtlbdcahecabfkaaPlRen3
set_option linter.unusedSimpArgs false
set_option linter.unusedVariables false
namespace Go.Pl
open Go.Eng Go.Proofs
def Lp.it (decay : Int) : Nat → Lp → Lp
  | 0, p => p
  | n + 1, p => Lp.it decay n (p.step decay)
theorem Lp.it_succ (decay : Int) : ∀ (n : Nat) (p : Lp), Lp.it decay (n + 1) p = (Lp.it decay n p).step decay
  | 0, p => rfl
  | n + 1, p => by
    show Lp.it decay (n + 1) (p.step decay) = _
    rw [Lp.it_succ decay n (p.step decay)]
    rfl
structure Lp.Sm (p : Lp) : Prop where
  s0 : 1 ≤ p.s
  s1 : p.s ≤ 20000
theorem Lp.Sm.step {decay : Int} (d0 : 0 ≤ decay) (d1 : decay ≤ 16000) {p : Lp} (h : p.Sm) : (p.step decay).Sm ∧ 0 ≤ (2 * p.s - 2) * decay ∧ (2 * p.s - 2) * decay ≤ (2 * p.s - 2) * 16000 := by
  obtain ⟨h3, h4⟩ := h
  have k1 : 0 ≤ (2 * p.s - 2) * decay := Int.mul_nonneg (by omega) d0
  have k2 : (2 * p.s - 2) * decay ≤ (2 * p.s - 2) * 16000 := Int.mul_le_mul_of_nonneg_left d1 (by omega)
  exact ⟨⟨by simp only [Lp.step]; omega, by simp only [Lp.step]; omega⟩, k1, k2⟩
theorem Lp.it_facts {decay : Int} (d0 : 0 ≤ decay) (d1 : decay ≤ 16000) : ∀ (n : Nat) (p : Lp), p.Sm → (Lp.it decay n p).Sm ∧ p.l + 2 * n ≤ (Lp.it decay n p).l ∧ (Lp.it decay n p).v = p.v + n
  | 0, p, h => ⟨h, by simp [Lp.it], by simp [Lp.it]⟩
  | n + 1, p, h => by
    obtain ⟨h1, h2, h3⟩ := Lp.it_facts d0 d1 n (p.step decay) (h.step d0 d1).1
    have := h.s0
    simp only [Lp.it]
    refine ⟨h1, ?_, ?_⟩
    · simp only [Lp.step] at h2; simp only [Lp.step]; omega
    · simp only [Lp.step] at h3; simp only [Lp.step]; omega
theorem Lp.it_one {decay : Int} : ∀ (n : Nat) (p : Lp), p.s = 1 → Lp.it decay n p = ⟨p.l + 2 * n, p.v + n, 1⟩
  | 0, p, h => by cases p; simp at h; subst h; simp [Lp.it]
  | n + 1, p, h => by
    have hs : p.step decay = ⟨p.l + 2, p.v + 1, 1⟩ := by simp [Lp.step, h]
    simp only [Lp.it]
    rw [hs, Lp.it_one n _ rfl, Lp.mk.injEq]
    exact ⟨by simp only; omega, by simp only; omega, rfl⟩
def lapOf (f : Int) (p : Lp) : Lp := if f < p.l + p.s then ⟨p.l, -p.v, p.s⟩ else ⟨p.l + p.s, p.v, p.s⟩
theorem lap_it {decay f : Int} (d0 : 0 ≤ decay) (d1 : decay ≤ 16000) : ∀ (i n : Nat) (p : Lp), p.Sm → f < p.l + 4 * n → (Lp.it decay i p).l ≤ f → f < (Lp.it decay i p).l + 2 * (Lp.it decay i p).s →
    lapEnd f (Lp.run decay f n p) = lapOf f (Lp.it decay i p)
  | 0, n, p, h, hn, h1, h2 => by
    simp only [Lp.it] at h1 h2 ⊢
    have hr : Lp.run decay f n p = p := by
      cases n with
      | zero => rfl
      | succ n => simp only [Lp.run]; rw [if_neg (by omega)]
    rw [hr]
    unfold lapEnd lapOf
    have := h.s0
    by_cases hs : p.s ≤ 1
    · have e1 : (f - p.l) / 2 = 0 := by omega
      simp only [if_pos hs, e1]
      simp
    · simp only [if_neg hs]
  | i + 1, 0, p, h, hn, h1, h2 => by
    have := (Lp.it_facts d0 d1 (i + 1) p h).2.1
    omega
  | i + 1, n + 1, p, h, hn, h1, h2 => by
    obtain ⟨g1, g2, g3⟩ := Lp.it_facts d0 d1 i (p.step decay) (h.step d0 d1).1
    simp only [Lp.it] at h1 h2
    have hs0 := h.s0
    by_cases hs : 1 < p.s
    · have el : (p.step decay).l = p.l + 2 * p.s := rfl
      have : p.l + 2 * p.s ≤ f := by omega
      simp only [Lp.run]
      rw [if_pos ⟨hs, this⟩]
      exact lap_it d0 d1 i n _ (h.step d0 d1).1 (by rw [el]; omega) h1 h2
    · have h1s : p.s = 1 := by omega
      have hr : Lp.run decay f (n + 1) p = p := by simp only [Lp.run]; rw [if_neg (by omega)]
      have hi := Lp.it_one (decay := decay) (i + 1) p h1s
      simp only [Lp.it] at hi
      rw [hi] at h1 h2
      simp only [Lp.it]
      rw [hr, hi]
      simp only at h1 h2
      have e1 : (f - p.l) / 2 = ((i + 1 : Nat) : Int) := by omega
      unfold lapEnd lapOf
      simp only [e1, h1s, Int.le_refl, if_true]
def plc (decay want up sg : Int) : Nat → Lp → Int × Int × Int → Int × Int × Int
  | 0, _, b => b
  | n + 1, p, b => if p.l + up * p.s ≥ 32768 then b else if p.v = want then (sg * p.v, p.l + up * p.s, min (p.l + up * p.s + p.s) 32768)
    else plc decay want up sg n (p.step decay) (sg * p.v, p.l + up * p.s, min (p.l + up * p.s + p.s) 32768)
theorem min_if (a : Int) : (if (32768 : Int) < a then 32768 else a) = min a 32768 := by split <;> omega
theorem place_loop {N : Nat} {ev ef ed decay want up sg c0 c1 c2 : Int} (d0 : 0 ≤ decay) (d1 : decay ≤ 16000) (hu : up = 1 ∧ sg = 1 ∨ up = 0 ∧ sg = -1) : ∀ (nn n : Nat) (p : Lp) (b : Int × Int × Int), p.Sm → 0 ≤ p.l → p.l ≤ 100000 → 0 ≤ p.v → p.v ≤ 100000 → 32768 ≤ p.l + 2 * n → n < nn → n ≤ 50000 → p.v + n ≤ 90000 →
    Rc.eplace.loop10 N nn ev ef ed decay want up c0 c1 c2 p.l p.s p.v b.1 b.2.1 b.2.2 = some (.inr (plc decay want up sg n p b))
  | 0, n, p, b, _, _, _, _, _, _, h, _, _ => by omega
  | nn + 1, n, p, b, h, l0, l1, v0, v1, hl, hn, hn2, hv => by
    obtain ⟨s0, s1⟩ := id h
    obtain ⟨k0, k1, k2⟩ := h.step d0 d1
    have hus : up * p.s = p.s ∧ up = 1 ∨ up * p.s = 0 ∧ up = 0 := by rcases hu with ⟨rfl, _⟩ | ⟨rfl, _⟩ <;> simp
    have hb : 0 ≤ up * p.s ∧ up * p.s ≤ 20000 := by rcases hus with ⟨h, _⟩ | ⟨h, _⟩ <;> rw [h] <;> omega
    unfold Rc.eplace.loop10
    simp only [br_dec, br_beq, chkI_same, omap_of]
    have e2 : p.s * 2 = 2 * p.s := by omega
    rw [i64 (x := up * p.s) (by omega) (by omega), i64 (x := p.l + up * p.s) (by omega) (by omega), i64 (x := p.l + up * p.s + p.s) (by omega) (by omega), min_if, e2, i64 (x := 2 * p.s) (by omega) (by omega), i64 (x := p.l + 2 * p.s) (by omega) (by omega), i64 (x := 2 * p.s - 2) (by omega) (by omega),
      i64 (x := (2 * p.s - 2) * decay) (by omega) (by omega), tdiv_ediv k1, i64 (x := (2 * p.s - 2) * decay / 32768) (by omega) (by omega), i64 (x := (2 * p.s - 2) * decay / 32768 + 1) (by omega) (by omega), i64 (x := p.v + 1) (by omega) (by omega), i64 (x := p.l + 2) (by omega) (by omega), i64 (x := 0 - p.v) (by omega) (by omega)]
    by_cases hst : p.l + up * p.s ≥ 32768
    · rw [if_pos hst]
      have : plc decay want up sg n p b = b := by
        cases n with
        | zero => rfl
        | succ n => simp only [plc]; rw [if_pos hst]
      rw [this]
    · rw [if_neg hst]
      cases n with
      | zero => omega
      | succ n =>
        simp only [plc]
        rw [if_neg hst]
        have hsg : (if up = 0 then 0 - p.v else p.v) = sg * p.v := by rcases hu with ⟨rfl, rfl⟩ | ⟨rfl, rfl⟩ <;> simp
        have ih := place_loop (N := N) (ev := ev) (ef := ef) (ed := ed) (c0 := c0) (c1 := c1) (c2 := c2) (want := want) d0 d1 hu nn n (p.step decay) (sg * p.v, p.l + up * p.s, min (p.l + up * p.s + p.s) 32768) k0 (by simp only [Lp.step]; omega) (by simp only [Lp.step]; omega) (by simp only [Lp.step]; omega) (by simp only [Lp.step]; omega) (by simp only [Lp.step]; omega) (by omega) (by omega) (by simp only [Lp.step]; omega)
        simp only [Lp.step] at ih
        have hone : ¬ p.s > 1 → (2 * p.s - 2) * decay / 32768 + 1 = p.s ∧ 2 * p.s = 2 := by
          intro hs
          have : p.s = 1 := by omega
          rw [this]
          simp
        by_cases hw : p.v = want
        · rw [if_pos hw, if_pos hw, if_pos hw, ← hsg]
          split <;> rfl
        · rw [if_neg hw, if_neg hw, if_neg hw]
          by_cases hs : p.s > 1
          · rw [if_pos hs, if_pos hs]
            rcases hu with ⟨rfl, rfl⟩ | ⟨rfl, rfl⟩
            · rw [if_neg (by omega)]
              simp only [Int.one_mul] at ih ⊢
              exact ih
            · rw [if_pos rfl]
              rw [show 0 - p.v = -1 * p.v by omega]
              exact ih
          · obtain ⟨q1, q2⟩ := hone hs
            rw [if_neg hs, if_neg hs]
            rw [q1, q2] at ih
            have hstep : p.step decay = ⟨p.l + 2, p.v + 1, p.s⟩ := by unfold Lp.step; rw [q1, q2]
            rw [hstep]
            rcases hu with ⟨rfl, rfl⟩ | ⟨rfl, rfl⟩
            · rw [if_neg (by omega)]
              simp only [Int.one_mul] at ih ⊢
              exact ih
            · rw [if_pos rfl]
              rw [show 0 - p.v = -1 * p.v by omega]
              exact ih
def plR (decay up sg : Int) (i : Nat) (p : Lp) : Int × Int × Int :=
  (sg * (Lp.it decay i p).v, (Lp.it decay i p).l + up * (Lp.it decay i p).s, min ((Lp.it decay i p).l + up * (Lp.it decay i p).s + (Lp.it decay i p).s) 32768)
def plOut (decay up : Int) (i : Nat) (p : Lp) : Prop := (Lp.it decay i p).l + up * (Lp.it decay i p).s ≥ 32768
theorem plc_at {decay want up sg : Int} (d0 : 0 ≤ decay) (d1 : decay ≤ 16000) : ∀ (i n : Nat) (p : Lp) (b : Int × Int × Int), p.Sm → (∀ j, j ≤ i → ¬ plOut decay up j p) → i + 1 < n → p.v + i ≤ want → (p.v + i = want ∨ plOut decay up (i + 1) p) →
    plc decay want up sg n p b = plR decay up sg i p
  | i, 0, p, b, _, _, hn, _, _ => by omega
  | 0, n + 1, p, b, h, hr, hn, hw, he => by
    have h0 : ¬ plOut decay up 0 p := hr 0 (Nat.le_refl _)
    unfold plOut at h0
    simp only [Lp.it] at h0
    simp only [plc]
    rw [if_neg h0]
    by_cases hv : p.v = want
    · rw [if_pos hv]; rfl
    · rw [if_neg hv]
      have h1 : plOut decay up 1 p := he.resolve_left (by simpa using hv)
      unfold plOut at h1
      simp only [Lp.it] at h1
      cases n with
      | zero => omega
      | succ n => simp only [plc]; rw [if_pos h1]; rfl
  | i + 1, n + 1, p, b, h, hr, hn, hw, he => by
    have h0 : ¬ plOut decay up 0 p := hr 0 (by omega)
    unfold plOut at h0
    simp only [Lp.it] at h0
    simp only [plc]
    rw [if_neg h0, if_neg (by omega)]
    exact plc_at d0 d1 i n (p.step decay) _ (h.step d0 d1).1 (fun j hj => hr (j + 1) (by omega)) (by omega) (by simp only [Lp.step]; omega) (by simp only [Lp.step]; exact he.imp (fun h => by omega) id)
theorem plc_ex {decay up : Int} (d0 : 0 ≤ decay) (d1 : decay ≤ 16000) (hu : 0 ≤ up) : ∀ (m : Nat) (p : Lp) (want : Int), p.Sm → ¬ plOut decay up 0 p → p.v ≤ want → 32768 ≤ p.l + 2 * m →
    ∃ i : Nat, i < m ∧ (∀ j, j ≤ i → ¬ plOut decay up j p) ∧ p.v + i ≤ want ∧ (p.v + i = want ∨ plOut decay up (i + 1) p)
  | 0, p, want, h, h0, hw, hl => by
    unfold plOut at h0
    simp only [Lp.it] at h0
    have := Int.mul_nonneg hu (show 0 ≤ p.s by have := h.s0; omega)
    omega
  | m + 1, p, want, h, h0, hw, hl => by
    by_cases hv : p.v = want
    · exact ⟨0, by omega, fun j hj => by rw [Nat.le_zero.1 hj]; exact h0, by simpa using hw, Or.inl (by simpa using hv)⟩
    · by_cases h1 : plOut decay up 1 p
      · exact ⟨0, by omega, fun j hj => by rw [Nat.le_zero.1 hj]; exact h0, by simpa using hw, Or.inr h1⟩
      · have hs0 := h.s0
        obtain ⟨i, i0, i1, i2, i3⟩ := plc_ex d0 d1 hu m (p.step decay) want (h.step d0 d1).1 h1 (by simp only [Lp.step]; omega) (by simp only [Lp.step]; omega)
        simp only [Lp.step] at i2 i3
        refine ⟨i + 1, by omega, fun j hj => ?_, by omega, i3.imp (fun h => by omega) id⟩
        cases j with
        | zero => exact h0
        | succ j => exact i1 j (by omega)
theorem start_sm {fs decay : Int} (h0 : 256 ≤ fs) (h1 : fs ≤ 28000) (d0 : 0 ≤ decay) (d1 : decay ≤ 16000) : (Lp.start fs decay).Sm ∧ (Lp.start fs decay).l + (Lp.start fs decay).s < 32768 ∧ 0 ≤ (32736 - fs) * (16384 - decay) ∧ (32736 - fs) * (16384 - decay) ≤ (32736 - fs) * 16384 := by
  have k1 : 0 ≤ (32736 - fs) * (16384 - decay) := Int.mul_nonneg (by omega) (by omega)
  have k2 : (32736 - fs) * (16384 - decay) ≤ (32736 - fs) * 16384 := Int.mul_le_mul_of_nonneg_left (by omega) (by omega)
  exact ⟨⟨by simp only [Lp.start]; omega, by simp only [Lp.start]; omega⟩, by simp only [Lp.start]; omega, k1, k2⟩
structure Lap (fs decay v : Int) (r : Int × Int × Int) : Prop where
  z : v = 0 → r = (0, 0, fs)
  nz : v ≠ 0 → ∃ (up sg : Int) (i : Nat), (0 < v ∧ up = 1 ∧ sg = 1 ∨ v < 0 ∧ up = 0 ∧ sg = -1) ∧ i < 16300 ∧ (∀ j, j ≤ i → ¬ plOut decay up j (Lp.start fs decay)) ∧ 1 + (i : Int) ≤ sg * v ∧ (1 + (i : Int) = sg * v ∨ plOut decay up (i + 1) (Lp.start fs decay)) ∧ r = plR decay up sg i (Lp.start fs decay)
def lapP (fs decay v : Int) : Int × Int × Int :=
  if v = 0 then (0, 0, fs) else if v < 0 then plc decay (0 - v) 0 (-1) 16384 (Lp.start fs decay) (0, 0, fs) else plc decay v 1 1 16384 (Lp.start fs decay) (0, 0, fs)
theorem eplace_F {N : Nat} {v fs decay : Int} (h0 : 256 ≤ fs) (h1 : fs ≤ 28000) (d0 : 0 ≤ decay) (d1 : decay ≤ 16000) (hv : -9223372036854775808 < v) (hv2 : v < 9223372036854775808) (hN : 20000 ≤ N) : Rc.eplace.F N v fs decay = some (lapP fs decay v) ∧ Lap fs decay v (lapP fs decay v) := by
  unfold Rc.eplace.F lapP
  simp only [br_dec, br_beq]
  obtain ⟨sm, sl, k1, k2⟩ := start_sm h0 h1 d0 d1
  by_cases hz : v = 0
  · rw [if_pos hz, if_pos hz]
    exact ⟨rfl, fun _ => rfl, fun h => absurd hz h⟩
  rw [if_neg hz, if_neg hz, i64 (x := 32736 - fs) (by omega) (by omega), i64 (x := 16384 - decay) (by omega) (by omega), i64 (x := (32736 - fs) * (16384 - decay)) (by omega) (by omega), tdiv_ediv k1, i64 (x := (32736 - fs) * (16384 - decay) / 32768) (by omega) (by omega), i64 (x := (32736 - fs) * (16384 - decay) / 32768 + 1) (by omega) (by omega)]
  by_cases hn : v < 0
  · rw [if_pos hn, if_pos hn, i64 (x := 0 - v) (by omega) (by omega)]
    have hloop := place_loop (N := N) (ev := v) (ef := fs) (ed := decay) (want := 0 - v) (c0 := 0) (c1 := 0) (c2 := 0) d0 d1 (Or.inr ⟨rfl, rfl⟩) N 16384 (Lp.start fs decay) (0, 0, fs) sm (by simp only [Lp.start]; omega) (by simp only [Lp.start]; omega) (by simp only [Lp.start]; omega) (by simp only [Lp.start]; omega) (by simp only [Lp.start]; omega) (by omega) (by omega) (by simp only [Lp.start]; omega)
    have hout : ¬ plOut decay 0 0 (Lp.start fs decay) := by unfold plOut; simp only [Lp.it, Lp.start]; omega
    obtain ⟨i, i0, i1, i2, i3⟩ := plc_ex d0 d1 (Int.le_refl 0) 16256 (Lp.start fs decay) (0 - v) sm hout (by simp only [Lp.start]; omega) (by simp only [Lp.start]; omega)
    have hat := plc_at (want := 0 - v) (up := 0) (sg := -1) d0 d1 i 16384 (Lp.start fs decay) (0, 0, fs) sm i1 (by omega) i2 i3
    rw [hat] at hloop ⊢
    simp only [Lp.start] at hloop i2 i3 ⊢
    rw [hloop, osum_inr]
    refine ⟨rfl, fun h => absurd h hz, fun _ => ⟨0, -1, i, Or.inr ⟨hn, rfl, rfl⟩, by omega, i1, by omega, i3.imp (fun h => by omega) id, rfl⟩⟩
  · rw [if_neg hn, if_neg hn]
    have hloop := place_loop (N := N) (ev := v) (ef := fs) (ed := decay) (want := v) (c0 := 0) (c1 := 0) (c2 := 0) d0 d1 (Or.inl ⟨rfl, rfl⟩) N 16384 (Lp.start fs decay) (0, 0, fs) sm (by simp only [Lp.start]; omega) (by simp only [Lp.start]; omega) (by simp only [Lp.start]; omega) (by simp only [Lp.start]; omega) (by simp only [Lp.start]; omega) (by omega) (by omega) (by simp only [Lp.start]; omega)
    have hout : ¬ plOut decay 1 0 (Lp.start fs decay) := by unfold plOut; simp only [Lp.it]; omega
    obtain ⟨i, i0, i1, i2, i3⟩ := plc_ex d0 d1 (by omega : (0 : Int) ≤ 1) 16256 (Lp.start fs decay) v sm hout (by simp only [Lp.start]; omega) (by simp only [Lp.start]; omega)
    have hat := plc_at (want := v) (up := 1) (sg := 1) d0 d1 i 16384 (Lp.start fs decay) (0, 0, fs) sm i1 (by omega) i2 i3
    rw [hat] at hloop ⊢
    simp only [Lp.start] at hloop i2 i3 ⊢
    rw [hloop, osum_inr]
    refine ⟨rfl, fun h => absurd h hz, fun _ => ⟨1, 1, i, Or.inl ⟨by omega, rfl, rfl⟩, by omega, i1, by omega, i3.imp (fun h => by omega) id, rfl⟩⟩
theorem Lap.place {fs decay v : Int} {r : Int × Int × Int} (h0 : 256 ≤ fs) (h1 : fs ≤ 28000) (d0 : 0 ≤ decay) (d1 : decay ≤ 16000) (h : Lap fs decay v r) :
    Place r.2.1 r.2.2 32768 ∧ (∀ f, r.2.1 ≤ f → f < r.2.2 → (lapAt f fs decay).l = r.2.1 ∧ lapH (lapAt f fs decay) = r.2.2 ∧ (lapAt f fs decay).v = r.1) ∧ (0 ≤ v → 0 ≤ r.1 ∧ r.1 ≤ v) ∧ (v ≤ 0 → r.1 ≤ 0 ∧ v ≤ r.1) := by
  obtain ⟨sm, sl, _, _⟩ := start_sm h0 h1 d0 d1
  by_cases hz : v = 0
  · rw [h.z hz]
    refine ⟨⟨by omega, by omega, by simp only; omega, by simp only; omega, by simp only; omega⟩, fun f f0 f1 => ?_, fun _ => by simp only; omega, fun _ => by simp only; omega⟩
    simp only at f0 f1
    unfold lapAt
    rw [if_neg (by omega)]
    refine ⟨rfl, ?_, rfl⟩
    unfold lapH
    simp only
    omega
  · obtain ⟨up, sg, i, hu, hi, i1, i2, i3, rfl⟩ := h.nz hz
    obtain ⟨g1, g2, g3⟩ := Lp.it_facts d0 d1 i (Lp.start fs decay) sm
    have hno := i1 i (Nat.le_refl _)
    unfold plOut at hno
    have hv : (Lp.start fs decay).v = 1 := rfl
    have hl : (Lp.start fs decay).l = fs := rfl
    obtain ⟨s0, s1⟩ := g1
    unfold plR
    have hus : 0 ≤ up * (Lp.it decay i (Lp.start fs decay)).s ∧ up * (Lp.it decay i (Lp.start fs decay)).s ≤ (Lp.it decay i (Lp.start fs decay)).s := by
      rcases hu with ⟨_, rfl, _⟩ | ⟨_, rfl, _⟩ <;> simp <;> omega
    refine ⟨⟨by omega, by omega, by simp only; omega, by simp only; omega, by simp only; omega⟩, fun f f0 f1 => ?_, fun hp => ?_, fun hp => ?_⟩
    · simp only at f0 f1 ⊢
      have hf : f < (Lp.it decay i (Lp.start fs decay)).l + 2 * (Lp.it decay i (Lp.start fs decay)).s := by omega
      unfold lapAt
      rw [if_pos (show f ≥ fs by omega), lap_it d0 d1 i 8192 (Lp.start fs decay) sm (by omega) (by omega) hf]
      unfold lapOf lapH
      rcases hu with ⟨_, rfl, rfl⟩ | ⟨_, rfl, rfl⟩
      · simp only [Int.one_mul] at f0 f1 ⊢
        rw [if_neg (by omega)]
        simp
      · simp only [Int.zero_mul, Int.add_zero] at f0 f1 ⊢
        rw [if_pos (by omega)]
        simp only [true_and]
        omega
    · rcases hu with ⟨_, rfl, rfl⟩ | ⟨hn, _⟩
      · simp only [Int.one_mul] at i2 ⊢; omega
      · omega
    · rcases hu with ⟨hn, _⟩ | ⟨_, rfl, rfl⟩
      · omega
      · simp only at i2 ⊢; omega
end Go.Pl
