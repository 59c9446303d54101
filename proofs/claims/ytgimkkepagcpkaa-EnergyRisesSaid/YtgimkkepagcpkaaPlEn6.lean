/-
  Layer 19: what is measured; the statements EnergySays and EnergyRises.
  Conditions: none.
-/
import Derived.Test.YtgimkkepagcpkaaPlEn5
set_option linter.unusedSimpArgs false
set_option linter.unusedVariables false
namespace Go.Pl
open Go.Eng Go.Proofs

def c30 (x : Int) : Int := if x < -1073741824 then -1073741824 else if x > 1073741824 then 1073741824 else x
theorem c30_range (x : Int) : -1073741824 ≤ c30 x ∧ c30 x ≤ 1073741824 := by
  unfold c30
  split
  · omega
  · split <;> omega
def sq (x : Int) : Int := c30 x * c30 x
theorem mul_self_range {x : Int} (h0 : -1073741824 ≤ x) (h1 : x ≤ 1073741824) : 0 ≤ x * x ∧ x * x ≤ 1152921504606846976 := by
  rcases Int.lt_or_le x 0 with c | c
  · have h2 : (-x) * (-x) ≤ 1073741824 * 1073741824 := Int.mul_le_mul (by omega) (by omega) (by omega) (by omega)
    have h3 : 0 ≤ (-x) * (-x) := Int.mul_nonneg (by omega) (by omega)
    rw [Int.neg_mul_neg] at h2 h3
    omega
  · have h2 : x * x ≤ 1073741824 * 1073741824 := Int.mul_le_mul (by omega) (by omega) (by omega) (by omega)
    have h3 : 0 ≤ x * x := Int.mul_nonneg (by omega) (by omega)
    omega
theorem sq_range (x : Int) : 0 ≤ sq x ∧ sq x ≤ 1152921504606846976 := mul_self_range (c30_range x).1 (c30_range x).2
def tot (l : List Int) : Nat → Int
  | 0 => 0
  | k + 1 => tot l k + sq (l.getD k 0)
theorem tot_range (l : List Int) : ∀ k, 0 ≤ tot l k ∧ tot l k ≤ k * 1152921504606846976
  | 0 => by simp [tot]
  | k + 1 => by have := tot_range l k; have := sq_range (l.getD k 0); simp only [tot]; omega

structure Meas (g : List Int) (r : Int) : Prop where
  z : g.length = 0 → r = 0
  n : g.length ≠ 0 → ∃ x, Root x (tot g g.length / g.length) ∧ r = nearest x
theorem Meas.eq {g : List Int} {r s : Int} (h : Meas g r) (k : Meas g s) : r = s := by
  by_cases c : g.length = 0
  · rw [h.z c, k.z c]
  · obtain ⟨x, h1, h2⟩ := h.n c
    obtain ⟨y, k1, k2⟩ := k.n c
    rw [h2, k2, h1.eq k1]
theorem Meas.le {g f : List Int} {r s : Int} (h : Meas g r) (k : Meas f s) (hl : g.length = f.length) (ht : tot g g.length ≤ tot f f.length) : r ≤ s := by
  by_cases c : g.length = 0
  · rw [h.z c, k.z (by omega)]; exact Int.le_refl _
  · obtain ⟨x, h1, h2⟩ := h.n c
    obtain ⟨y, k1, k2⟩ := k.n (by omega)
    rw [h2, k2]
    refine nearest_mono (h1.le k1 ?_)
    rw [← hl]
    exact Int.ediv_le_ediv (by omega) (by rw [hl] at ht ⊢; exact ht)
theorem Root.small {r a : Int} (h : Root r a) (ha : a < 4611686018427387904) : r < 4611686018427387904 := by
  rcases Int.lt_or_le r 4611686018427387904 with c | c
  · exact c
  · have h2 := h.l
    have h3 : 4611686018427387904 * 1 ≤ r * r := Int.mul_le_mul c (by omega) (by omega) (by omega)
    omega
theorem mean_range (l : List Int) (h : l.length ≠ 0) : 0 ≤ tot l l.length / l.length ∧ tot l l.length / l.length ≤ 1152921504606846976 := by
  obtain ⟨t0, t1⟩ := tot_range l l.length
  refine ⟨Int.ediv_nonneg t0 (by omega), ?_⟩
  have := Int.ediv_le_ediv (c := (l.length : Int)) (by omega) t1
  rw [Int.mul_ediv_cancel_left _ (by omega)] at this
  exact this

section
variable {N : Nat}
theorem clamp30 (x : Int) : Rc.clamp.F N x (-1073741824) 1073741824 = some (c30 x) := by
  unfold Rc.clamp.F c30
  simp only [br_dec]
  by_cases c1 : x < -1073741824
  · rw [if_neg (by omega), if_pos c1, if_pos c1]
  by_cases c2 : x > 1073741824
  · rw [if_neg (by omega), if_neg c1, if_pos c2, if_neg c1, if_pos c2]
  · rw [if_neg (by omega), if_neg c1, if_neg c2, if_neg c1, if_neg c2]
theorem rclamp30 (x : Int) : Rc.rclamp.F N x (-1073741824) 1073741824 = some (c30 x) := by
  unfold Rc.rclamp.F c30
  simp only [br_dec]
  by_cases c1 : x < -1073741824
  · rw [if_pos c1, if_pos c1]
  by_cases c2 : x > 1073741824
  · rw [if_neg c1, if_neg (by omega), if_pos c2, if_neg c1, if_pos c2]
  · rw [if_neg c1, if_neg (by omega), if_neg c2, if_neg c1, if_neg c2]

theorem emeasure_loop {g : List Int} (hl : g.length ≤ 1000) : ∀ (nn k : Nat), k ≤ g.length → g.length - k < nn →
    Rc.emeasure.loop6 N nn g.length g (tot g k / 18446744073709551616) (tot g k % 18446744073709551616) k = some (tot g g.length / 18446744073709551616, tot g g.length % 18446744073709551616)
  | 0, k, _, h => by omega
  | nn + 1, k, hk, h => by
    unfold Rc.emeasure.loop6
    simp only [br_dec, chkL_same, chkI_same]
    by_cases c : k < g.length
    · have h1 := sq_range (g.getD k 0)
      obtain ⟨t0, t1⟩ := tot_range g k
      rw [if_pos (by omega), chk_pos (by omega), clamp30, obind_of, Int.toNat_natCast]
      rw [show c30 (g.getD k 0) * c30 (g.getD k 0) = sq (g.getD k 0) from rfl, i64 (x := sq (g.getD k 0)) (by omega) (by omega), u64 (x := sq (g.getD k 0)) (by omega) (by omega), chk_pos (by omega), i64 (x := (k : Int) + 1) (by omega) (by omega)]
      rw [show IntKind.u64.wrap (tot g k / 18446744073709551616 + (tot g k % 18446744073709551616 + sq (g.getD k 0) + 0) / 18446744073709551616) = tot g (k + 1) / 18446744073709551616 by
        rw [u64 (by omega) (by omega)]; simp only [tot]; omega, show (tot g k % 18446744073709551616 + sq (g.getD k 0) + 0) % 18446744073709551616 = tot g (k + 1) % 18446744073709551616 by simp only [tot]; omega]
      exact emeasure_loop hl nn (k + 1) (by omega) (by omega)
    · rw [if_neg (by omega)]
      obtain rfl : k = g.length := by omega
      rfl

theorem emeasure_F (f : List Int) (hN : 2000 ≤ N) : ∃ r : Int, Rc.emeasure.F N f = some r ∧ Meas (f.take 1000) r := by
  have hg : List.take ((if (1000 : Int) < f.length then (1000 : Int) else f.length).toNat - 0) (List.drop 0 f) = f.take 1000 := by
    rw [List.drop_zero, Nat.sub_zero]
    by_cases c : (1000 : Int) < f.length
    · rw [if_pos c]; rfl
    · rw [if_neg c, Int.toNat_natCast, List.take_length, List.take_of_length_le (by omega)]
  unfold Rc.emeasure.F
  rw [chk_pos (by split <;> omega), hg]
  have hl : (f.take 1000).length ≤ 1000 := by rw [List.length_take]; omega
  generalize f.take 1000 = g at hl
  simp only [br_beq]
  by_cases c : g.length = 0
  · rw [if_pos (by omega)]
    exact ⟨0, rfl, fun _ => rfl, fun h => absurd c h⟩
  obtain ⟨t0, t1⟩ := tot_range g g.length
  have hm := mean_range g c
  have he := emeasure_loop (N := N) (g := g) hl N 0 (by omega) (by omega)
  rw [show tot g 0 / 18446744073709551616 = 0 from rfl, show tot g 0 % 18446744073709551616 = 0 from rfl, show ((0 : Nat) : Int) = 0 from rfl] at he
  rw [if_neg (by omega), he, obind_of, u64 (x := (g.length : Int)) (by omega) (by omega)]
  obtain ⟨rr, hd⟩ := div64_F (N := N) (hi := tot g g.length / 18446744073709551616) (lo := tot g g.length % 18446744073709551616) (y := g.length) (by omega) (by omega) (by omega) (by omega) (by omega) (by omega) (by omega)
  rw [show tot g g.length / 18446744073709551616 * 18446744073709551616 + tot g g.length % 18446744073709551616 = tot g g.length by omega] at hd
  rw [hd, obind_of]
  simp only
  obtain ⟨x, hx, hr, _⟩ := fsqrt_F (N := N) hm.1 (by omega) (by omega)
  rw [i64 (by omega) (by omega), hx, obind_of, enearest_F x (by omega), obind_of]
  exact ⟨_, rfl, fun h => absurd h c, fun _ => ⟨x, hr, rfl⟩⟩

theorem rmeasure_loop {g : List Int} (hl : g.length ≤ 1000) (h0 : g.length ≠ 0) : ∀ (nn k : Nat) (a b : Int), k ≤ g.length → g.length - k < nn → 0 ≤ a → 0 ≤ b → b ≤ 1000 * k → g.length * a + b = tot g k →
    ∃ a' b' : Int, Rc.rmeasure.loop8 N nn g a b k = some (a', b') ∧ 0 ≤ a' ∧ 0 ≤ b' ∧ b' ≤ 1000000 ∧ g.length * a' + b' = tot g g.length
  | 0, k, _, _, _, h, _, _, _, _ => by omega
  | nn + 1, k, a, b, hk, h, ha, hb, hb2, hs => by
    unfold Rc.rmeasure.loop8
    simp only [br_dec, chkL_same, chkI_same]
    by_cases c : k < g.length
    · have h1 := sq_range (g.getD k 0)
      obtain ⟨t0, t1⟩ := tot_range g k
      have hd := Int.mul_ediv_add_emod (sq (g.getD k 0)) g.length
      have hm0 := Int.emod_nonneg (sq (g.getD k 0)) (show (g.length : Int) ≠ 0 by omega)
      have hm1 := Int.emod_lt_of_pos (sq (g.getD k 0)) (show (0 : Int) < g.length by omega)
      have hd0 := Int.ediv_nonneg h1.1 (show (0 : Int) ≤ g.length by omega)
      have hd1 := Int.ediv_le_self (g.length : Int) h1.1
      have ha1 : a ≤ 1152921504606846976 := by
        have : (g.length : Int) * a ≤ g.length * 1152921504606846976 := by omega
        exact Int.le_of_mul_le_mul_left this (by omega)
      rw [if_pos (by omega), chk_pos (by omega), rclamp30, obind_of, Int.toNat_natCast]
      rw [show c30 (g.getD k 0) * c30 (g.getD k 0) = sq (g.getD k 0) from rfl, i64 (x := sq (g.getD k 0)) (by omega) (by omega), tdiv_ediv h1.1, tmod_emod h1.1, chk_pos (by omega), chk_pos (by omega), i64 (x := sq (g.getD k 0) / g.length) (by omega) (by omega), i64 (x := a + sq (g.getD k 0) / g.length) (by omega) (by omega), i64 (x := b + sq (g.getD k 0) % g.length) (by omega) (by omega), i64 (x := (k : Int) + 1) (by omega) (by omega)]
      refine rmeasure_loop hl h0 nn (k + 1) _ _ (by omega) (by omega) (by omega) (by omega) (by omega) ?_
      simp only [tot]
      rw [Int.mul_add]
      omega
    · rw [if_neg (by omega)]
      obtain rfl : k = g.length := by omega
      exact ⟨a, b, rfl, ha, hb, by omega, hs⟩

/-- Behind the cut. -/
theorem rmeasure_end {g : List Int} (hl : g.length ≤ 1000) (hN : 2000 ≤ N) : ∃ r : Int, (br ((g.length : Int) == (0 : Int)) (some (0 : Int)) (obind (Rc.rmeasure.loop8 N N g 0 0 0) fun r0 => chk ((g.length : Int) ≠ (0 : Int)) (obind (Rc.rsqrt.F N (IntKind.i64.wrap (r0.fst + IntKind.i64.wrap (r0.snd.tdiv g.length)))) fun r1 => obind (Rc.rnearest.F N r1) fun r2 => some r2))) = some r ∧ Meas g r := by
  rw [br_beq]
  by_cases c : g.length = 0
  · rw [if_pos (by omega)]
    exact ⟨0, rfl, fun _ => rfl, fun h => absurd c h⟩
  have hm := mean_range g c
  obtain ⟨a, b, he, a0, b0, b1, hs⟩ := rmeasure_loop (N := N) (g := g) hl c N 0 0 0 (by omega) (by omega) (by omega) (by omega) (by omega) (by simp [tot])
  rw [show ((0 : Nat) : Int) = 0 from rfl] at he
  have hq : a + b / g.length = tot g g.length / g.length := by
    rw [← hs, Int.mul_add_ediv_left _ _ (by omega)]
  have hb0 := Int.ediv_nonneg b0 (show (0 : Int) ≤ g.length by omega)
  rw [if_neg (by omega), he, obind_of, chk_pos (by omega)]
  simp only
  rw [tdiv_ediv b0, i64 (x := b / g.length) (by omega) (by omega), hq, i64 (by omega) (by omega)]
  obtain ⟨x, hx, hr⟩ := rsqrt_F (N := N) hm.1 (by omega) (by omega)
  have hx1 := hr.small (by omega)
  have hx0 := hr.p
  rw [hx, obind_of, rnearest_F ⟨by omega, by omega⟩ (by omega), obind_of]
  exact ⟨_, rfl, fun h => absurd h c, fun _ => ⟨x, hr, rfl⟩⟩

theorem rmeasure_F (f : List Int) (hN : 2000 ≤ N) : ∃ r : Int, Rc.rmeasure.F N f = some r ∧ Meas (f.take 1000) r := by
  unfold Rc.rmeasure.F
  rw [br_dec]
  by_cases c : f.length > 1000
  · have hg : List.take (Int.toNat (1000 : Int) - 0) (List.drop 0 f) = f.take 1000 := by rw [List.drop_zero]; rfl
    rw [if_pos (by omega), chk_pos (by omega), hg]
    exact rmeasure_end (by rw [List.length_take]; omega) hN
  · have hg : f.take 1000 = f := List.take_of_length_le (by omega)
    rw [if_neg (by omega), hg]
    exact rmeasure_end (by omega) hN

theorem energySays_pure (e v b : Int) (was now : List Int) (intra : Bool) (f : List Int) (hv : -9223372036854775808 ≤ v ∧ v < 9223372036854775808) (hb : b < 9223372036854775808) : ∃ N, Rc.energySays.F N e v b was now intra f = some true := by
  refine ⟨30000, ?_⟩
  unfold Rc.energySays.F
  rw [awake19_F (by omega), obind_of]
  simp only [br_not, if_true, br_dec, br_beq]
  by_cases k1 : was.length > 100
  · rw [if_pos (by omega)]
  by_cases k2 : now.length > 100
  · rw [if_neg (by omega), if_pos (by omega)]
  by_cases k3 : f.length > 1500
  · rw [if_neg (by omega), if_neg (by omega), if_pos (by omega)]
  obtain ⟨r, hr, mr⟩ := emeasure_F (N := 30000) f (by omega)
  obtain ⟨s, hs, ms⟩ := rmeasure_F (N := 30000) f (by omega)
  have hrs := mr.eq ms
  subst hrs
  rw [if_neg (by omega), if_neg (by omega), if_neg (by omega), esize_F (by omega), obind_of, rsize_F (by omega), obind_of, if_pos rfl, enearest_F v (by omega), obind_of, rnearest_F hv (by omega), obind_of, if_pos rfl, eexpect_F hb, obind_of, rexpect_F hb, obind_of, if_pos rfl, chk_pos (by simp only [List.length_nil]; omega), List.nil_append, hr, obind_of, hs, obind_of]
  simp

theorem rises_loop {a0 b0 : Int} {f0 f : List Int} (hl : f.length ≤ 500) (s : Bool) : ∀ (nn k : Nat) (g : List Int), k ≤ f.length → f.length - k < nn → g = (f.take k).map (2 * ·) →
    (∃ s', Rc.energyRises.loop7 N a0 b0 f0 nn f k s g = some (.inl (s', f.map (2 * ·))) ∧ (∀ i, k ≤ i → i < f.length → -1048576 ≤ f.getD i 0 ∧ f.getD i 0 ≤ 1048576)) ∨ Rc.energyRises.loop7 N a0 b0 f0 nn f k s g = some (.inr true)
  | 0, k, g, _, h, _ => by omega
  | nn + 1, k, g, hk, h, hg => by
    unfold Rc.energyRises.loop7
    simp only [br_dec, chkL_same]
    by_cases c : k < f.length
    · rw [if_pos (by omega), chk_pos (by omega), Int.toNat_natCast]
      by_cases c1 : f.getD k 0 > 1048576
      · rw [if_pos c1]; exact Or.inr rfl
      rw [if_neg c1, chk_pos (by omega)]
      by_cases c2 : f.getD k 0 < -1048576
      · rw [if_pos c2]; exact Or.inr rfl
      have hgl : g.length = k := by rw [hg, List.length_map, List.length_take]; omega
      rw [if_neg c2, chk_pos (by omega), chk_pos (by simp only [List.length_singleton]; omega), i64 (x := 2 * f.getD k 0) (by omega) (by omega), i64 (x := (k : Int) + 1) (by omega) (by omega)]
      rcases rises_loop (a0 := a0) (b0 := b0) (f0 := f0) hl s nn (k + 1) (g ++ [2 * f.getD k 0]) (by omega) (by omega) (by
        rw [hg, List.take_succ_eq_append_getElem c, List.map_append, List.getD_eq_getElem?_getD, List.getElem?_eq_getElem c]
        rfl) with ⟨s', e, hi⟩ | e
      · refine Or.inl ⟨s', e, fun i h0 h1 => ?_⟩
        rcases Nat.lt_or_ge k i with d | d
        · exact hi i (by omega) h1
        · obtain rfl : i = k := by omega
          omega
      · exact Or.inr e
    · rw [if_neg (by omega)]
      refine Or.inl ⟨s, ?_, fun i h0 h1 => by omega⟩
      rw [hg, List.take_of_length_le (by omega)]

theorem sq_dbl {x : Int} (h0 : -1048576 ≤ x) (h1 : x ≤ 1048576) : sq x ≤ sq (2 * x) := by
  have e1 : c30 x = x := by unfold c30; rw [if_neg (by omega), if_neg (by omega)]
  have e2 : c30 (2 * x) = 2 * x := by unfold c30; rw [if_neg (by omega), if_neg (by omega)]
  have h := mul_self_range (x := x) (by omega) (by omega)
  unfold sq
  rw [e1, e2]
  have : 2 * x * (2 * x) = 4 * (x * x) := by grind
  omega
theorem tot_dbl {f : List Int} (h : ∀ i, 0 ≤ i → i < f.length → -1048576 ≤ f.getD i 0 ∧ f.getD i 0 ≤ 1048576) : ∀ k, k ≤ f.length → tot f k ≤ tot (f.map (2 * ·)) k
  | 0, _ => Int.le_refl _
  | k + 1, hk => by
    have ih := tot_dbl h k (by omega)
    have hi := h k (by omega) (by omega)
    have hs := sq_dbl hi.1 hi.2
    have : (f.map (2 * ·)).getD k 0 = 2 * f.getD k 0 := by
      rw [List.getD_eq_getElem?_getD, List.getD_eq_getElem?_getD, List.getElem?_map, List.getElem?_eq_getElem (by omega)]
      rfl
    simp only [tot, this]
    omega

theorem cl_mono {a b : Int} (h : a ≤ b) : cl a ≤ cl b := by
  unfold cl
  split <;> (try split) <;> (try split) <;> (try split) <;> omega

theorem energyRises_pure (a b : Int) (f : List Int) : ∃ N, Rc.energyRises.F N a b f = some true := by
  refine ⟨30000, ?_⟩
  unfold Rc.energyRises.F
  rw [awake19_F (by omega), obind_of]
  simp only [br_not, if_true, br_dec, br_beq]
  by_cases k1 : a > b
  · rw [if_pos k1]
  by_cases k2 : f.length > 500
  · rw [if_neg k1, if_pos (by omega)]
  rw [if_neg k1, if_neg (by omega)]
  have hl := rises_loop (N := 30000) (a0 := a) (b0 := b) (f0 := f) (f := f) (by omega) false 30000 0 [] (by omega) (by omega) rfl
  rw [show ((0 : Nat) : Int) = 0 from rfl] at hl
  rcases hl with ⟨s', e, hi⟩ | e
  · have ca := cl_range a
    have cb := cl_range b
    have hm := sz_mono ca.1 (cl_mono (a := a) (b := b) (by omega)) cb.2
    have hn := nearest_spec (sz (cl b))
    have hz := nearest_sz cb.1 cb.2
    obtain ⟨r, hr, mr⟩ := emeasure_F (N := 30000) f (by omega)
    obtain ⟨s, hs, ms⟩ := emeasure_F (N := 30000) (f.map (2 * ·)) (by omega)
    rw [List.take_of_length_le (by omega)] at mr
    rw [List.take_of_length_le (by rw [List.length_map]; omega)] at ms
    have hrs := mr.le ms (by rw [List.length_map]) (by rw [List.length_map]; exact tot_dbl hi _ (Nat.le_refl _))
    rw [e, osum_inl, esize_F (by omega), obind_of, esize_F (by omega), obind_of, if_pos hm, obind_of, enearest_F _ (by omega), obind_of, esize_F (by omega), obind_of, obind_of, cl_same hn.1 hn.2.1, hz, if_pos rfl, hr, obind_of, hs, obind_of]
    simp only [Option.some.injEq, decide_eq_true_eq]
    exact hrs
  · rw [e, osum_inr]
end
end Go.Pl
