/-
  Chapter 3's statements in plain words: bytes put behind.
  Conditions: none.
-/
import Derived.Test.YtihbpcggomabcaaPlLaw3
set_option linter.unusedSimpArgs false
set_option linter.unusedVariables false
namespace Go.Pl
open Go.Eng Go.Proofs

/-! ### Two texts whose bytes are the same -/
theorem Q.norm_congr {b c : List Int} : ∀ (n : Nat) (q : Q), (∀ j, q.m ≤ j → j < (Q.norm b n q).m → nb b j = nb c j) → Q.norm c n q = Q.norm b n q
  | 0, q, _ => rfl
  | n + 1, q, h => by
    simp only [Q.norm] at h ⊢
    split
    · rename_i hr
      rw [if_pos hr] at h
      have hm := Q.norm_m b n (q.step b)
      have em : (q.step b).m = q.m + 1 := rfl
      have e : q.step c = q.step b := by
        unfold Q.step
        rw [h q.m (Nat.le_refl _) (by omega)]
      rw [e]
      exact Q.norm_congr n _ fun j hj hj2 => h j (by omega) hj2
    · rfl

theorem Q.on_congr {b c : List Int} {q : Q} (h : ∀ j, j < (q.on b).m → nb b j = nb c j) : q.on c = q.on b := Q.norm_congr 4 q fun j _ hj => h j hj
theorem Q.sy_congr {b c : List Int} {q : Q} {t : List Int} (h : ∀ j, j < (q.sy b t).m → nb b j = nb c j) : q.sy c t = q.sy b t := Q.on_congr h
theorem Q.fl_congr {b c : List Int} {q : Q} {n : Int} (h : ∀ j, j < (q.fl b n).m → nb b j = nb c j) : q.fl c n = q.fl b n := Q.on_congr h

theorem Q.sy_m (b : List Int) (q : Q) (t : List Int) : q.m ≤ (q.sy b t).m ∧ (q.sy b t).m ≤ q.m + 4 := Q.tk_m b q _ _ _
theorem Q.sy_ok {b : List Int} (hb : Bytes b) {q : Q} (h : q.Ok) {t : List Int} (g : GoodT t) : (q.sy b t).Ok := Q.tk_ok hb h (Q.sk_spec h g).2

theorem nb_app {b c : List Int} {j : Nat} (h : j < b.length) : nb (b ++ c) j = nb b j := by
  simp [nb, List.getD_eq_getElem?_getD, List.getElem?_append_left h]
theorem nb_zeros (b : List Int) (n j : Nat) : nb (b ++ zeros n) j = nb b j := by
  rcases Nat.lt_or_ge j b.length with h | h
  · exact nb_app h
  · rw [show nb b j = 0 from getD_out h]
    simp only [nb, List.getD_eq_getElem?_getD, List.getElem?_append_right h, zeros, List.getElem?_replicate]
    split <;> rfl

theorem bytes_app {b c : List Int} (hb : Bytes b) (hc : Bytes c) : Bytes (b ++ c) := fun x hx => by
  rcases List.mem_append.1 hx with h | h
  · exact hb x h
  · exact hc x h
theorem bytes_zeros (n : Nat) : Bytes (zeros n) := fun x hx => by
  have := List.eq_of_mem_replicate hx
  omega

/-! ### RcEnd -/
theorem end_loop {N : Nat} {b c : List Int} {l : List Rc.Act3} {b0 : List Int} (hb : Bytes b) (hl : b.length < 1099511627776) (hc : Bytes c) (hlc : c.length < 1099511627776) (hbc : ∀ j, nb b j = nb c j) (hN : 300 ≤ N) (hll : l.length ≤ 100) :
    ∀ (nn k : Nat) (q : Q) (count : Int) (s : Bool), q.Ok → 0 ≤ count → count + 80 * ((l.length : Int) - k) < 100000 → k ≤ l.length → l.length - k < nn →
      ∃ r, Rc.rcEnd.loop8 N b0 l nn 0 0 0 0 0 0 false false b c (k : Int) q.rng q.val q.last (fr b q.m) count q.rng q.val q.last (fr c q.m) count s = some (Sum.inl r)
  | 0, k, q, count, s, _, _, _, _, h => by omega
  | nn + 1, k, q, count, s, hq, hc0, hc1, hk, h => by
    unfold Rc.rcEnd.loop8
    simp only [br_dec, chkI_same, chkB_same, chkL_same]
    by_cases hlt : k < l.length
    · rw [if_pos (by omega), chk_pos (by omega), mask7, icdf_F, obind_of]
      have g := icdf_good (n := (l.getD (k : Int).toNat Rc.Act3.nil).n % 8) (by omega) (by omega)
      generalize icdfT ((l.getD (k : Int).toNat Rc.Act3.nil).n % 8) = t at g ⊢
      have hs := (symbol_F (N := N) (back := 0) (window := 0) (waiting := 0) (bad := false) hb hl hq t hc0 (by omega) hN).1 g
      have hs2 := (symbol_F (N := N) (back := 0) (window := 0) (waiting := 0) (bad := false) hc hlc hq t hc0 (by omega) hN).1 g
      rw [Q.sy_congr (b := b) (c := c) fun j _ => hbc j] at hs2
      rw [hs, obind_of, hs2, obind_of]
      simp only
      rw [br_bne, if_pos rfl, chk_pos (by omega), mask7, i64 (by omega) (by omega)]
      have hm := q.sy_m b t
      have hcr := ct_range (b := b) hm count
      have hq2 := Q.sy_ok hb hq g
      have hf := flag_F (N := N) (back := 0) (window := 0) (waiting := 0) (bad := false) (count := ct count q (q.sy b t)) hb hl hq2 (1 + (l.getD (k : Int).toNat Rc.Act3.nil).m % 8) (by omega) (by omega) hN
      have hf2 := flag_F (N := N) (back := 0) (window := 0) (waiting := 0) (bad := false) (count := ct count q (q.sy b t)) hc hlc hq2 (1 + (l.getD (k : Int).toNat Rc.Act3.nil).m % 8) (by omega) (by omega) hN
      rw [if_pos (by omega)] at hf hf2
      rw [Q.fl_congr (b := b) (c := c) fun j _ => hbc j] at hf2
      rw [hf, obind_of, chk_pos (by omega), hf2, obind_of]
      have hq3 := Q.fl_ok hb hq2 (n := 1 + (l.getD (k : Int).toNat Rc.Act3.nil).m % 8) (by omega) (by omega)
      have hm2 := Q.fl_m b (q.sy b t) (1 + (l.getD (k : Int).toNat Rc.Act3.nil).m % 8)
      have hcr2 := ct_range (b := b) hm2 (ct count q (q.sy b t))
      simp only [beq_self_eq_true, Bool.not_true, br_false]
      rw [tell_F hq3 (by omega) (by omega), obind_of, tell_F hq3 (by omega) (by omega), obind_of, br_bne, if_pos rfl, i64 (by omega) (by omega)]
      exact end_loop hb hl hc hlc hbc hN hll nn (k + 1) _ _ s hq3 (by omega) (by omega) (by omega) (by omega)
    · rw [if_neg (by omega)]
      exact ⟨_, rfl⟩

theorem rcEnd_pure (b : List Int) (l : List Rc.Act3) (hw : WfL .u8 b) : ∃ N, Rc.rcEnd.F N b l = some true := by
  refine ⟨2000, ?_⟩
  have hb := bytes_of hw
  unfold Rc.rcEnd.F
  rw [awake_F (by omega), obind_of]
  simp only [br_dec, br_not, if_true]
  by_cases h1 : (b.length : Int) > 100
  · rw [if_pos h1]
  rw [if_neg h1]
  by_cases h2 : (l.length : Int) > 60
  · rw [if_pos h2]
  rw [if_neg h2, new_F hb (by omega) (by omega), obind_of, chk_pos (by simp; omega), chk_pos (by simp; omega)]
  have hz : ([] : List Int) ++ b ++ List.replicate (Int.toNat (60 : Int)) (0 : Int) = b ++ zeros 60 := rfl
  have hc := bytes_app hb (bytes_zeros 60)
  have hlc : (b ++ zeros 60).length < 1099511627776 := by simp [zeros]; omega
  have hbc : ∀ j, nb b j = nb (b ++ zeros 60) j := fun j => (nb_zeros b 60 j).symm
  have e0 : Q.new0 (b ++ zeros 60) = Q.new0 b := by unfold Q.new0; rw [hbc 0]
  have e1 : Q.new (b ++ zeros 60) = Q.new b := by
    unfold Q.new
    rw [e0]
    exact Q.on_congr fun j _ => hbc j
  have e2 : cnew (b ++ zeros 60) = cnew b := by unfold cnew; rw [e1]
  rw [hz, new_F hc hlc (by omega), obind_of, e1, e2]
  simp only
  have hcr := cnew_range b
  obtain ⟨r, hr⟩ := end_loop (N := 2000) (b0 := b) (b := b) (c := b ++ zeros 60) (l := l) hb (by omega) hc hlc hbc (by omega) (by omega) 2000 0 (Q.new b) (cnew b) false (Q.new_ok hb) hcr.1 (by omega) (by omega) (by omega)
  rw [show ((0 : Nat) : Int) = 0 from rfl] at hr
  rw [hr, osum_inl]

/-! ### RcFront -/
theorem front_loop {N : Nat} {b c : List Int} {more : List Int} {l : List Rc.Act3} (hb : Bytes b) (hl : b.length ≤ 500) (hc : Bytes c) (hlc : c.length < 1099511627776) (hbc : ∀ j, j < b.length → nb b j = nb c j) (hN : 300 ≤ N) (hll : l.length ≤ 100) :
    ∀ (nn k : Nat) (q : Q) (s : Bool), q.Ok → q.m ≤ b.length → k ≤ l.length → l.length - k < nn →
      Rc.rcFront.loop8 N b more l nn 0 0 0 0 0 0 false false b b c (k : Int) q.rng q.val q.last (fr b q.m) (1 + 8 * (q.m : Int)) q.rng q.val q.last (fr c q.m) (1 + 8 * (q.m : Int)) s = some (Sum.inr true) ∨
      ∃ q' : Q, q'.Ok ∧ q'.m ≤ b.length ∧ Rc.rcFront.loop8 N b more l nn 0 0 0 0 0 0 false false b b c (k : Int) q.rng q.val q.last (fr b q.m) (1 + 8 * (q.m : Int)) q.rng q.val q.last (fr c q.m) (1 + 8 * (q.m : Int)) s =
        some (Sum.inl (q'.rng, q'.val, q'.last, fr b q'.m, 1 + 8 * (q'.m : Int), q'.rng, q'.val, q'.last, fr c q'.m, 1 + 8 * (q'.m : Int), s))
  | 0, k, q, s, _, _, _, h => by omega
  | nn + 1, k, q, s, hq, hqm, hk, h => by
    unfold Rc.rcFront.loop8
    simp only [br_dec, chkI_same, chkB_same, chkL_same]
    by_cases hlt : k < l.length
    · rw [if_pos (by omega), chk_pos (by omega), mask7, icdf_F, obind_of]
      have g := icdf_good (n := (l.getD (k : Int).toNat Rc.Act3.nil).n % 8) (by omega) (by omega)
      generalize icdfT ((l.getD (k : Int).toNat Rc.Act3.nil).n % 8) = t at g ⊢
      have hm := q.sy_m b t
      have hcr := ct_range (b := b) hm (1 + 8 * (q.m : Int))
      have hq2 := Q.sy_ok hb hq g
      have hs := (symbol_F (N := N) (back := 0) (window := 0) (waiting := 0) (count := 1 + 8 * (q.m : Int)) (bad := false) hb (by omega) hq t (by omega) (by omega) hN).1 g
      have hs2 := (symbol_F (N := N) (back := 0) (window := 0) (waiting := 0) (count := 1 + 8 * (q.m : Int)) (bad := false) hc hlc hq t (by omega) (by omega) hN).1 g
      have ect : ct (1 + 8 * (q.m : Int)) q (q.sy b t) = 1 + 8 * ((q.sy b t).m : Int) := by unfold ct; omega
      rw [hs, obind_of, hs2, obind_of]
      simp only
      rw [ect, tell_F hq2 (by omega) (by omega), obind_of, i64 (x := 8 * _) (by omega) (by omega), i64 (by omega) (by omega)]
      have hbl := Q.bl_range hq2
      by_cases htl : (q.sy b t).tell (1 + 8 * ((q.sy b t).m : Int)) > 8 * (b.length : Int) - 32
      · rw [if_pos htl]
        exact Or.inl rfl
      · rw [if_neg htl]
        have hmb : (q.sy b t).m ≤ b.length := by unfold Q.tell at htl; omega
        have e2 : q.sy c t = q.sy b t := Q.sy_congr fun j hj => hbc j (by omega)
        rw [e2, ect, br_bne, if_pos rfl, i64 (by omega) (by omega)]
        exact front_loop hb hl hc hlc hbc hN hll nn (k + 1) _ s hq2 hmb (by omega) (by omega)
    · rw [if_neg (by omega)]
      exact Or.inr ⟨q, hq, hqm, rfl⟩

theorem Q.new_rng (b : List Int) : (Q.new b).rng = 2147483648 ∧ (Q.new b).m = 4 := by
  have : Q.new b = ((((Q.new0 b).step b).step b).step b) := rfl
  rw [this]
  exact ⟨rfl, rfl⟩

theorem cnew_eq (b : List Int) : cnew b = 1 + 8 * ((Q.new b).m : Int) := by
  have := (Q.new_rng b).2
  unfold cnew
  omega

theorem rcFront_pure (b more : List Int) (l : List Rc.Act3) (hw : WfL .u8 b) (hw2 : WfL .u8 more) : ∃ N, Rc.rcFront.F N b more l = some true := by
  refine ⟨2000, ?_⟩
  have hb := bytes_of hw
  have hmo := bytes_of hw2
  unfold Rc.rcFront.F
  rw [awake_F (by omega), obind_of]
  simp only [br_dec, br_not, if_true]
  by_cases h1 : (b.length : Int) > 500
  · rw [if_pos h1]
  rw [if_neg h1]
  by_cases h2 : (more.length : Int) > 500
  · rw [if_pos h2]
  rw [if_neg h2]
  by_cases h3 : (l.length : Int) > 50
  · rw [if_pos h3]
  rw [if_neg h3, new_F hb (by omega) (by omega), obind_of, chk_pos (by simp; omega), chk_pos (by simp; omega)]
  have hz : ([] : List Int) ++ b ++ more = b ++ more := rfl
  have hc := bytes_app hb hmo
  have hlc : (b ++ more).length < 1099511627776 := by simp; omega
  rw [hz, new_F hc hlc (by omega), obind_of, cnew_eq, cnew_eq]
  simp only
  have hbc : ∀ j, j < b.length → nb b j = nb (b ++ more) j := fun j hj => (nb_app hj).symm
  obtain ⟨r1, m1⟩ := Q.new_rng b
  obtain ⟨r2, m2⟩ := Q.new_rng (b ++ more)
  have ok1 := Q.new_ok hb
  have ok2 := Q.new_ok hc
  by_cases h4 : 4 ≤ b.length
  · -- the same from the beginning
    have e0 : Q.new0 (b ++ more) = Q.new0 b := by unfold Q.new0; rw [hbc 0 (by omega)]
    have e1 : Q.new (b ++ more) = Q.new b := by
      unfold Q.new
      rw [e0]
      refine Q.on_congr fun j hj => hbc j ?_
      have hj' : j < (Q.new b).m := hj
      omega
    rw [e1]
    have hl := front_loop (N := 2000) (b := b) (c := b ++ more) (more := more) (l := l) hb (by omega) hc hlc hbc (by omega) (by omega) 2000 0 (Q.new b) false ok1 (by omega) (by omega) (by omega)
    rw [show ((0 : Nat) : Int) = 0 from rfl] at hl
    rcases hl with hl | ⟨q, hq, hqm, hl⟩
    · rw [hl, osum_inr]
    · rw [hl, osum_inl]
      simp only
      rw [tell_F hq (by omega) (by omega), obind_of, tell_F hq (by omega) (by omega), obind_of]
      simp
  · -- too short
    cases l with
    | nil =>
      unfold Rc.rcFront.loop8
      simp only [br_dec, chkI_same, chkB_same, chkL_same]
      rw [if_neg (by simp), osum_inl]
      simp only
      rw [tell_F ok1 (by omega) (by omega), obind_of, tell_F ok2 (by omega) (by omega), obind_of]
      unfold Q.tell
      rw [r1, r2, m1, m2]
      simp
    | cons a l =>
      unfold Rc.rcFront.loop8
      simp only [br_dec, chkI_same, chkB_same, chkL_same]
      rw [if_pos (by simp), chk_pos (by simp), mask7, icdf_F, obind_of]
      have g := icdf_good (n := ((a :: l).getD (0 : Int).toNat Rc.Act3.nil).n % 8) (by omega) (by omega)
      generalize icdfT (((a :: l).getD (0 : Int).toNat Rc.Act3.nil).n % 8) = t at g ⊢
      have hm := (Q.new b).sy_m b t
      have hq2 := Q.sy_ok hb ok1 g
      have hs := (symbol_F (N := 2000) (back := 0) (window := 0) (waiting := 0) (count := 1 + 8 * ((Q.new b).m : Int)) (bad := false) hb (by omega) ok1 t (by omega) (by omega) (by omega)).1 g
      have hs2 := (symbol_F (N := 2000) (back := 0) (window := 0) (waiting := 0) (count := 1 + 8 * ((Q.new (b ++ more)).m : Int)) (bad := false) hc hlc ok2 t (by omega) (by omega) (by omega)).1 g
      have ect : ct (1 + 8 * ((Q.new b).m : Int)) (Q.new b) ((Q.new b).sy b t) = 1 + 8 * (((Q.new b).sy b t).m : Int) := by unfold ct; omega
      rw [hs, obind_of, hs2, obind_of]
      simp only
      have hbl := Q.bl_range hq2
      have htl : ((Q.new b).sy b t).tell (1 + 8 * (((Q.new b).sy b t).m : Int)) > 8 * (b.length : Int) - 32 := by unfold Q.tell; omega
      rw [ect, tell_F hq2 (by omega) (by omega), obind_of, i64 (x := 8 * _) (by omega) (by omega), i64 (by omega) (by omega), if_pos htl, omap_of, osum_inr]
end Go.Pl
