/-
  Layer 8: what is written is read.
  Conditions: none.
-/
import Derived.Test.YtlbdcahecabfkaaPlGa2
import Derived.Test.YtlbdcahecabfkaaPlGa4
set_option linter.unusedSimpArgs false
set_option linter.unusedVariables false
namespace Go.Pl
open Go.Eng Go.Proofs

theorem st_range {x w : Int} (h0 : 0 ≤ w) (h1 : w ≤ 63) : 0 ≤ w + c8 (c63 x - w) ∧ w + c8 (c63 x - w) ≤ 63 := by
  have := c63_range x
  unfold c8
  split
  · omega
  · split <;> omega

theorem E.sy_same8 (e : E) (s : Nat) (t : List Int) : (e.sy s t).r = e.r ∧ (e.sy s t).raw = e.raw ∧ e.k ≤ (e.sy s t).k ∧ (e.sy s t).k ≤ e.k + 4 := E.tk_same e _ _ _
theorem E.sy_ok8 {e : E} (h : e.Ok) {t : List Int} (g : GoodT t) {s : Nat} (hs : s < t.length) : (e.sy s t).Ok := E.tk_ok h (sym_place g hs)
theorem E.sy_tell8 {e : E} (h : e.Ok) {t : List Int} (g : GoodT t) {s : Nat} (hs : s < t.length) : e.tell ≤ (e.sy s t).tell ∧ (e.sy s t).tell ≤ e.tell + 31 := E.tk0_tell h (sym_place g hs)
theorem E.us_same {e : E} {v ft : Int} (f0 : 1 < ft) (f1 : ft ≤ 256) : (e.un v ft).r = e.r ∧ (e.un v ft).raw = e.raw ∧ e.k ≤ (e.un v ft).k ∧ (e.un v ft).k ≤ e.k + 4 := by
  have eu : e.un v ft = e.tk v (v + 1) ft := by unfold E.un; rw [if_neg (by omega), if_pos f1]
  rw [eu]
  exact E.tk_same e _ _ _
theorem E.bits_of {e e' : E} (h1 : e'.r = e.r) (h2 : e'.raw = e.raw) : e'.bits = e.bits := by unfold E.bits; rw [h1, h2]

theorem ct_rd {b : List Int} {e e' : E} (h : e.k ≤ e'.k) : ct (33 + 8 * (e.k : Int)) (e.rd b) (e'.rd b) = 33 + 8 * (e'.k : Int) := by
  unfold ct
  show _ + 8 * (((e'.k + 4) - (e.k + 4) : Nat) : Int) = _
  omega

/-! ### Writing -/
def ef (g : Int) : E := (E.new.sy (g / 8).toNat (icdfT 1)).un (g % 8) 8
theorem ef_facts {g : Int} (h0 : 0 ≤ g) (h1 : g ≤ 63) : (ef g).Ok ∧ (ef g).r = 0 ∧ (ef g).raw = 0 ∧ (ef g).k ≤ 8 ∧ (ef g).tell ≤ 63 := by
  have a1 := E.sy_ok8 E.new_ok g1 (s := (g / 8).toNat) (by rw [len1]; omega)
  have a2 := E.sy_same8 E.new (g / 8).toNat (icdfT 1)
  have a3 := E.sy_tell8 E.new_ok g1 (s := (g / 8).toNat) (by rw [len1]; omega)
  have b1 := E.un_ok a1 (v := g % 8) (ft := 8) (by omega) (by omega) (by omega)
  have b2 := E.us_same (e := E.new.sy (g / 8).toNat (icdfT 1)) (v := g % 8) (ft := 8) (by omega) (by omega)
  have b3 : (ef g).tell ≤ (E.new.sy (g / 8).toNat (icdfT 1)).tell + 31 := by
    have eu : ef g = (E.new.sy (g / 8).toNat (icdfT 1)).tk (g % 8) (g % 8 + 1) 8 := by unfold ef E.un; rw [if_neg (by omega), if_pos (by omega)]
    rw [eu]
    exact (E.tk0_tell a1 (un_place (by omega) (by omega) (by omega))).2
  have ht := E.new_tell
  have hk : E.new.k = 0 := rfl
  have hr : E.new.r = 0 := rfl
  have hw : E.new.raw = 0 := rfl
  refine ⟨b1, ?_, ?_, ?_, by omega⟩
  · show (E.un _ _ _).r = 0
    rw [b2.1, a2.1, hr]
  · show (E.un _ _ _).raw = 0
    rw [b2.2.1, a2.2.1, hw]
  · show (E.un _ _ _).k ≤ 8
    omega

section
variable {N : Nat}
theorem gwritefirst_F (hN : 30000 ≤ N) (g : Int) :
    Rc.gwritefirst.F N g E.new.val E.new.rng E.new.r E.new.count E.new.told E.new.bits =
      some (if g < 0 ∨ g > 63 then (1, E.new.val, E.new.rng, (E.new.r : Int), E.new.count, E.new.told, E.new.bits) else (0, (ef g).val, (ef g).rng, ((ef g).r : Int), (ef g).count, (ef g).told, (ef g).bits)) := by
  unfold Rc.gwritefirst.F
  simp only [br_dec, br_bne]
  by_cases c1 : g < 0
  · rw [if_pos c1, if_pos (Or.inl c1)]
  by_cases c2 : g > 63
  · rw [if_neg c1, if_pos c2, if_pos (Or.inr c2)]
  have a1 := E.sy_ok8 E.new_ok g1 (s := (g / 8).toNat) (by rw [len1]; omega)
  have a2 := E.sy_same8 E.new (g / 8).toNat (icdfT 1)
  have hk : E.new.k = 0 := rfl
  have hr : E.new.r = 0 := rfl
  have low : (E.new.sy (g / 8).toNat (icdfT 1)).Low := ⟨by omega, by omega⟩
  have hbits : (E.new.sy (g / 8).toNat (icdfT 1)).bits = E.new.bits := E.bits_of a2.1 a2.2.1
  rw [if_neg c1, if_neg c2, ticdf_F, obind_of, tdiv_ediv (by omega), i64 (x := g / 8) (by omega) (by omega), (esymbol_F E.new_ok (E.new_low.lim hN) (g / 8) (icdfT 1)).1 ⟨g1, by omega, by rw [len1]; omega⟩, obind_of]
  simp only [if_true]
  have hu := euint_F (N := N) a1 (low.lim hN) (by omega) (g % 8) 8
  rw [a2.1, hbits] at hu
  rw [show g.tmod 8 = g % 8 by rw [Int.tmod_eq_emod_of_nonneg (by omega)], hu, if_pos (by omega), obind_of, if_neg (by omega)]
  rfl

theorem gwritenext_F {e : E} (h : e.Ok) (hl : e.Low) (hN : 30000 ≤ N) (g : Int) {w : Int} (w0 : 0 ≤ w) (w1 : w ≤ 63) {raw : List Int} :
    Rc.gwritenext.F N g w e.val e.rng e.r e.count e.told raw =
      some (w + c8 (c63 g - w), 0, (e.sy (c8 (c63 g - w) + 8).toNat (icdfT 2)).val, (e.sy (c8 (c63 g - w) + 8).toNat (icdfT 2)).rng, (e.r : Int), (e.sy (c8 (c63 g - w) + 8).toNat (icdfT 2)).count, raw, (e.sy (c8 (c63 g - w) + 8).toNat (icdfT 2)).told) := by
  unfold Rc.gwritenext.F
  have hc := c63_range g
  have hd := c8_range (c63 g - w)
  have hs := st_range (x := g) w0 w1
  rw [gclamp_F, obind_of, gclamp_F, obind_of, c63_of w0 w1, i64 (x := c63 g - w) (by omega) (by omega), i64 (x := c63 g - w + 8) (by omega) (by omega)]
  have hif : (if (16 : Int) < if (0 : Int) > c63 g - w + 8 then (0 : Int) else c63 g - w + 8 then (16 : Int) else if (0 : Int) > c63 g - w + 8 then (0 : Int) else c63 g - w + 8) = c8 (c63 g - w) + 8 := by
    unfold c8
    split <;> (try split) <;> (try split) <;> (try split) <;> omega
  rw [hif, i64 (x := w + (c8 (c63 g - w) + 8)) (by omega) (by omega), show w + (c8 (c63 g - w) + 8) - 8 = w + c8 (c63 g - w) by omega, i64 (x := w + c8 (c63 g - w)) (by omega) (by omega), gclamp_F, obind_of, ticdf_F, obind_of, (esymbol_F h (hl.lim hN) (c8 (c63 g - w) + 8) (icdfT 2)).1 ⟨g2, by omega, by rw [len2]; omega⟩, obind_of, c63_of hs.1 hs.2]
end

/-- n loudnesses more. -/
def gwr (l : List Int) : Nat → Nat → E → Int → List Int → E × Int × List Int
  | 0, _, e, w, o => (e, w, o)
  | n + 1, i, e, w, o => gwr l n (i + 1) (e.sy (c8 (c63 (l.getD i 0) - w) + 8).toNat (icdfT 2)) (w + c8 (c63 (l.getD i 0) - w)) (o ++ [w + c8 (c63 (l.getD i 0) - w)])

theorem gwr_facts (l : List Int) : ∀ (n i : Nat) (e : E) (w : Int) (o : List Int), e.Ok → 0 ≤ w → w ≤ 63 →
    (gwr l n i e w o).1.Ok ∧ (gwr l n i e w o).1.r = e.r ∧ (gwr l n i e w o).1.raw = e.raw ∧ e.k ≤ (gwr l n i e w o).1.k ∧ (gwr l n i e w o).1.k ≤ e.k + 4 * n ∧ (gwr l n i e w o).1.tell ≤ e.tell + 31 * n ∧
      0 ≤ (gwr l n i e w o).2.1 ∧ (gwr l n i e w o).2.1 ≤ 63 ∧ (gwr l n i e w o).2.2.length = o.length + n ∧ (gwr l n i e w o).2.2.take o.length = o
  | 0, i, e, w, o, h, w0, w1 => ⟨h, rfl, rfl, by simp [gwr], by simp [gwr], by simp [gwr], w0, w1, by simp [gwr], by simp [gwr]⟩
  | n + 1, i, e, w, o, h, w0, w1 => by
    have hd := c8_range (c63 (l.getD i 0) - w)
    have hs := st_range (x := l.getD i 0) w0 w1
    have a1 := E.sy_ok8 h g2 (s := (c8 (c63 (l.getD i 0) - w) + 8).toNat) (by rw [len2]; omega)
    have a2 := E.sy_same8 e (c8 (c63 (l.getD i 0) - w) + 8).toNat (icdfT 2)
    have a3 := E.sy_tell8 h g2 (s := (c8 (c63 (l.getD i 0) - w) + 8).toNat) (by rw [len2]; omega)
    obtain ⟨i1, i2, i3, i4, i5, i6, i7, i8, i9, i10⟩ := gwr_facts l n (i + 1) (e.sy (c8 (c63 (l.getD i 0) - w) + 8).toNat (icdfT 2)) (w + c8 (c63 (l.getD i 0) - w)) (o ++ [w + c8 (c63 (l.getD i 0) - w)]) a1 hs.1 hs.2
    simp only [List.length_append, List.length_singleton] at i9 i10
    refine ⟨i1, by simp only [gwr]; rw [i2, a2.1], by simp only [gwr]; rw [i3, a2.2.1], by simp only [gwr]; omega, by simp only [gwr]; omega, by simp only [gwr]; omega, i7, i8, by simp only [gwr]; omega, ?_⟩
    simp only [gwr]
    have := congrArg (List.take o.length) i10
    rw [List.take_take, Nat.min_eq_left (by omega), List.take_left'] at this
    · exact this
    · rfl

section
variable {N : Nat}
theorem gwrite_loop {l : List Int} {rate lag taps : Int} (hl : l.length ≤ 30) (hN : 30000 ≤ N) : ∀ (nn n i : Nat) (e : E) (w : Int) (o : List Int), e.Ok → e.r = 0 → e.k ≤ 4 * i + 4 → i + n = l.length → o.length ≤ i → 0 ≤ w → w ≤ 63 → n < nn →
    Rc.gainBack.loop11 N l rate lag taps nn l w i e.val e.rng e.r e.count false o e.told e.bits =
      some (.inl ((gwr l n i e w o).2.1, (gwr l n i e w o).1.val, (gwr l n i e w o).1.rng, ((gwr l n i e w o).1.r : Int), (gwr l n i e w o).1.count, false, (gwr l n i e w o).2.2, (gwr l n i e w o).1.told, (gwr l n i e w o).1.bits))
  | 0, n, i, e, w, o, _, _, _, _, _, _, _, h0 => by omega
  | nn + 1, n, i, e, w, o, h, hr, hk, hin, ho, w0, w1, h0 => by
    unfold Rc.gainBack.loop11
    simp only [br_dec, br_bne, chkL_same]
    rcases n with _ | n
    · rw [if_neg (by omega)]; rfl
    · have low : e.Low := ⟨by omega, by omega⟩
      have hc := c63_range (l.getD i 0)
      have hd := c8_range (c63 (l.getD i 0) - w)
      have hs := st_range (x := l.getD i 0) w0 w1
      have a1 := E.sy_ok8 h g2 (s := (c8 (c63 (l.getD i 0) - w) + 8).toNat) (by rw [len2]; omega)
      have a2 := E.sy_same8 e (c8 (c63 (l.getD i 0) - w) + 8).toNat (icdfT 2)
      rw [if_pos (by omega), chk_pos (by omega), Int.toNat_natCast, gwritenext_F h low hN _ w0 w1, obind_of, chk_pos (by omega), rclamp63, obind_of]
      simp only [if_true]
      rw [i64 (x := c63 (l.getD i 0) - w) (by omega) (by omega), rclamp8, obind_of, i64 (x := w + c8 (c63 (l.getD i 0) - w)) (by omega) (by omega), if_pos rfl, chk_pos (by simp only [List.length_singleton]; omega), i64 (x := (i : Int) + 1) (by omega) (by omega)]
      have ih := gwrite_loop (rate := rate) (lag := lag) (taps := taps) hl hN nn n (i + 1) (e.sy (c8 (c63 (l.getD i 0) - w) + 8).toNat (icdfT 2)) (w + c8 (c63 (l.getD i 0) - w)) (o ++ [w + c8 (c63 (l.getD i 0) - w)]) a1 (by rw [a2.1, hr]) (by omega) (by omega) (by simp only [List.length_append, List.length_singleton]; omega) hs.1 hs.2 (by omega)
      rw [show (((i + 1 : Nat)) : Int) = (i : Int) + 1 by omega, a2.1, E.bits_of a2.1 a2.2.1] at ih
      exact ih

theorem gback_loop {l0 : List Int} {rate lag taps : Int} {b l : List Int} (hb : Bytes b) (hlb : b.length ≤ 300) (hl : l.length ≤ 30) (hN : 30000 ≤ N) {back window waiting : Int} {bad : Bool} (s : Bool) {O : List Int} {E' : E} {W' : Int} (hf : E'.Fit b) (hO : O.length ≤ 30) :
    ∀ (nn n i : Nat) (e : E) (w : Int) (o : List Int), gwr l n i e w o = (E', W', O) → e.Ok → e.k ≤ 4 * o.length + 100 → 0 ≤ w → w ≤ 63 → n < nn → e.Fit b ∧
      Rc.gainBack.loop32 N l0 rate lag taps nn back window waiting bad O b w o.length (e.rd b).rng (e.rd b).val (e.rd b).last (fr b (e.rd b).m) (33 + 8 * (e.k : Int)) s =
        some (.inl (W', (E'.rd b).rng, (E'.rd b).val, (E'.rd b).last, fr b (E'.rd b).m, 33 + 8 * (E'.k : Int), s))
  | 0, n, i, e, w, o, _, _, _, _, _, h0 => by omega
  | nn + 1, n, i, e, w, o, he, h, hk, w0, w1, h0 => by
    obtain ⟨f1, f2, f3, f4, f5, f6, f7, f8, f9, f10⟩ := gwr_facts l n i e w o h w0 w1
    rw [he] at f1 f4 f5 f9 f10
    simp only at f1 f4 f5 f9 f10
    rcases n with _ | n
    · simp only [gwr, Prod.mk.injEq] at he
      obtain ⟨rfl, rfl, rfl⟩ := he
      refine ⟨hf, ?_⟩
      unfold Rc.gainBack.loop32
      simp only [br_dec, br_bne, chkL_same, chkI_same, chkB_same]
      rw [if_neg (by omega)]
    · have hd := c8_range (c63 (l.getD i 0) - w)
      have hs := st_range (x := l.getD i 0) w0 w1
      have a1 := E.sy_ok8 h g2 (s := (c8 (c63 (l.getD i 0) - w) + 8).toNat) (by rw [len2]; omega)
      have a2 := E.sy_same8 e (c8 (c63 (l.getD i 0) - w) + 8).toNat (icdfT 2)
      obtain ⟨i1, i2⟩ := gback_loop (l0 := l0) (rate := rate) (lag := lag) (taps := taps) hb hlb hl hN (back := back) (window := window) (waiting := waiting) (bad := bad) s hf hO nn n (i + 1) (e.sy (c8 (c63 (l.getD i 0) - w) + 8).toNat (icdfT 2)) (w + c8 (c63 (l.getD i 0) - w)) (o ++ [w + c8 (c63 (l.getD i 0) - w)]) he a1 (by simp only [List.length_append, List.length_singleton]; omega) hs.1 hs.2 (by omega)
      obtain ⟨b1, b2, b3⟩ := E.sy_back hb h g2 (s := (c8 (c63 (l.getD i 0) - w) + 8).toNat) (by rw [len2]; omega) i1
      refine ⟨b1, ?_⟩
      have hrd := E.rd_ok hb h b1.i
      have hg := gwr_facts l n (i + 1) (e.sy (c8 (c63 (l.getD i 0) - w) + 8).toNat (icdfT 2)) (w + c8 (c63 (l.getD i 0) - w)) (o ++ [w + c8 (c63 (l.getD i 0) - w)]) a1 hs.1 hs.2
      have he' : gwr l n (i + 1) (e.sy (c8 (c63 (l.getD i 0) - w) + 8).toNat (icdfT 2)) (w + c8 (c63 (l.getD i 0) - w)) (o ++ [w + c8 (c63 (l.getD i 0) - w)]) = (E', W', O) := he
      rw [he'] at hg
      have ht : O.take (o.length + 1) = o ++ [w + c8 (c63 (l.getD i 0) - w)] := by
        have := hg.2.2.2.2.2.2.2.2.2
        simpa only [List.length_append, List.length_singleton] using this
      have hget : O.getD o.length 0 = w + c8 (c63 (l.getD i 0) - w) := by
        have e1 : O.getD o.length 0 = (O.take (o.length + 1)).getD o.length 0 := by
          rw [List.getD_eq_getElem?_getD, List.getD_eq_getElem?_getD, List.getElem?_take_of_lt (by omega)]
        rw [e1, ht]
        simp [List.getD_eq_getElem?_getD]
      unfold Rc.gainBack.loop32
      simp only [br_dec, br_bne, chkL_same, chkI_same, chkB_same]
      rw [if_pos (by omega), greadnext_F hb (by omega) hrd w (by omega) (by omega) (by omega), obind_of]
      simp only
      rw [b2, c63_of w0 w1, show w + (((c8 (c63 (l.getD i 0) - w) + 8).toNat : Nat) : Int) - 8 = w + c8 (c63 (l.getD i 0) - w) by omega, c63_of hs.1 hs.2, chk_pos (by omega), Int.toNat_natCast, hget, if_pos rfl, ← b3, ct_rd a2.2.2.1, i64 (x := (o.length : Int) + 1) (by omega) (by omega)]
      rw [show (((o ++ [w + c8 (c63 (l.getD i 0) - w)]).length : Nat) : Int) = (o.length : Int) + 1 by simp only [List.length_append, List.length_singleton]; omega] at i2
      exact i2

/-- The first one is read. -/
theorem gback_first {b : List Int} (hb : Bytes b) (hlb : b.length ≤ 300) {g : Int} (h0 : 0 ≤ g) (h1 : g ≤ 63) (hN : 30000 ≤ N) (hf : (ef g).Fit b) :
    Rc.greadfirst.F N (Q.new b).rng (Q.new b).val (Q.new b).last (fr b (Q.new b).m) 0 0 0 (cnew b) false b =
      some (g, ((ef g).rd b).rng, ((ef g).rd b).val, ((ef g).rd b).last, fr b ((ef g).rd b).m, 0, 0, 0, 33 + 8 * ((ef g).k : Int), false) := by
  have a1 := E.sy_ok8 E.new_ok g1 (s := (g / 8).toNat) (by rw [len1]; omega)
  have a2 := E.sy_same8 E.new (g / 8).toNat (icdfT 1)
  have b2 := E.us_same (e := E.new.sy (g / 8).toNat (icdfT 1)) (v := g % 8) (ft := 8) (by omega) (by omega)
  obtain ⟨u1, u2, u3, _⟩ := E.us_back hb a1 (v := g % 8) (ft := 8) (by omega) (by omega) (by omega) (by omega) hf
  obtain ⟨v1, v2, v3⟩ := E.sy_back hb E.new_ok g1 (s := (g / 8).toNat) (by rw [len1]; omega) u1
  have hc : cnew b = 33 + 8 * (E.new.k : Int) := by
    rw [cnew_eq, (Q.new_rng b).2]; rfl
  have hcn := cnew_range b
  rw [greadfirst_F hb (by omega) (Q.new_ok hb) (by omega) (by omega) (by omega), ← E.new_rd hb, v2, ← v3, u2, ← u3, hc, ct_rd a2.2.2.1, ct_rd b2.2.2.1]
  rw [show 8 * (((g / 8).toNat : Nat) : Int) + g % 8 = g by omega]
  rfl

/-! ### What repeats -/
def elt (e : E) (rate lag taps : Int) : E := (e.un (lag - lo8 rate) (hi8 rate - lo8 rate + 1)).sy taps.toNat (icdfT 6)
def mayL (rate lag taps : Int) : Prop := hi8 rate > 0 ∧ lo8 rate ≤ lag ∧ lag ≤ hi8 rate ∧ 0 ≤ taps ∧ taps ≤ 7

theorem gwriteltp_not {e : E} {rate lag taps : Int} (hm : ¬ mayL rate lag taps) :
    Rc.gwriteltp.F N rate lag taps e.val e.rng e.r e.count e.told e.bits = some (1, e.val, e.rng, (e.r : Int), e.count, e.told, e.bits) := by
  unfold Rc.gwriteltp.F
  simp only [br_dec, br_bne, br_beq, chkI_same]
  rw [glags_F, obind_of]
  simp only
  have hl := lags_of rate
  unfold mayL at hm
  by_cases c0 : lo8 rate = 0
  · rw [if_pos c0]
  by_cases c1 : lag < lo8 rate
  · rw [if_neg c0, if_pos c1]
  by_cases c2 : lag > hi8 rate
  · rw [if_neg c0, if_neg c1, if_pos c2]
  by_cases c3 : taps < 0
  · rw [if_neg c0, if_neg c1, if_neg c2, if_pos c3]
  rw [if_neg c0, if_neg c1, if_neg c2, if_neg c3]
  unfold Rc.tfilters.F
  rw [obind_of, if_pos]
  show taps ≥ (8 : Int)
  omega

theorem un_tell8 {e : E} (h : e.Ok) {v ft : Int} (v0 : 0 ≤ v) (v1 : v < ft) (h1 : ft ≤ 300) : (e.un v ft).Ok ∧ e.k ≤ (e.un v ft).k ∧ (e.un v ft).k ≤ e.k + 4 ∧ (e.un v ft).r ≤ e.r + 24 ∧ (e.un v ft).tell ≤ e.tell + 55 := by
  refine ⟨E.un_ok h v0 v1 (by omega), ?_, ?_, ?_, (E.un_tell h v0 v1 (by omega)).2⟩
  all_goals
    unfold E.un
    split
    · omega
    · split
      · have := E.tk_same e v (v + 1) ft
        omega
      · have := E.tk_same e (v / 2 ^ ub ft) (v / 2 ^ ub ft + 1) (uf ft)
        have := ub_range (ft := ft) (by omega) (by omega)
        simp only [E.bt]
        omega

theorem gwriteltp_may {e : E} (h : e.Ok) (hl : e.Low) (hk : e.k ≤ 1000) (hr : e.r = 0) (hN : 30000 ≤ N) {rate lag taps : Int} (hm : mayL rate lag taps) :
    Rc.gwriteltp.F N rate lag taps e.val e.rng e.r e.count e.told e.bits = some (0, (elt e rate lag taps).val, (elt e rate lag taps).rng, ((elt e rate lag taps).r : Int), (elt e rate lag taps).count, (elt e rate lag taps).told, (elt e rate lag taps).bits) ∧
      (elt e rate lag taps).Ok ∧ (elt e rate lag taps).Low ∧ (elt e rate lag taps).tell ≤ e.tell + 86 := by
  obtain ⟨m1, m2, m3, m4, m5⟩ := hm
  have hl8 := lags_of rate
  obtain ⟨a1, a2, a3, a4, a5⟩ := un_tell8 h (v := lag - lo8 rate) (ft := hi8 rate - lo8 rate + 1) (by omega) (by omega) (by omega)
  have low : (e.un (lag - lo8 rate) (hi8 rate - lo8 rate + 1)).Low := ⟨by omega, by omega⟩
  have b2 := E.sy_same8 (e.un (lag - lo8 rate) (hi8 rate - lo8 rate + 1)) taps.toNat (icdfT 6)
  have b3 := E.sy_tell8 a1 g6 (s := taps.toNat) (by rw [len6]; omega)
  refine ⟨?_, E.sy_ok8 a1 g6 (by rw [len6]; omega), ⟨by unfold elt; omega, by unfold elt; omega⟩, by unfold elt; omega⟩
  unfold Rc.gwriteltp.F
  simp only [br_dec, br_bne, br_beq, chkI_same]
  rw [glags_F, obind_of]
  simp only
  rw [if_neg (by omega), if_neg (by omega), if_neg (by omega), if_neg (by omega)]
  unfold Rc.tfilters.F
  rw [obind_of, if_neg (show ¬ taps ≥ (8 : Int) by omega), i64 (x := lag - lo8 rate) (by omega) (by omega), i64 (x := hi8 rate - lo8 rate) (by omega) (by omega), i64 (x := hi8 rate - lo8 rate + 1) (by omega) (by omega), euint_F h (hl.lim hN) (by omega), if_pos (by omega), obind_of]
  simp only [if_true]
  rw [ticdf_F, obind_of, (esymbol_F a1 (low.lim hN) taps (icdfT 6)).1 ⟨g6, by omega, by rw [len6]; omega⟩, obind_of]
  unfold elt
  rw [b2.1, E.bits_of b2.1 b2.2.1]

theorem gback_ltp {b : List Int} (hb : Bytes b) (hlb : b.length ≤ 300) {e : E} (h : e.Ok) (hk : e.k ≤ 1000) (hr : e.r = 0) (hN : 30000 ≤ N) {rate lag taps : Int} (hm : mayL rate lag taps) (hf : (elt e rate lag taps).Fit b) :
    e.Fit b ∧ ∃ t, Rc.greadltp.F N rate (e.rd b).rng (e.rd b).val (e.rd b).last (fr b (e.rd b).m) 0 0 0 (33 + 8 * (e.k : Int)) false b = some (lag, taps, t) := by
  obtain ⟨m1, m2, m3, m4, m5⟩ := hm
  have hl8 := lags_of rate
  obtain ⟨a1, a2, a3, a4, a5⟩ := un_tell8 h (v := lag - lo8 rate) (ft := hi8 rate - lo8 rate + 1) (by omega) (by omega) (by omega)
  obtain ⟨v1, v2, v3⟩ := E.sy_back hb a1 g6 (s := taps.toNat) (by rw [len6]; omega) hf
  have hrdu := E.rd_ok hb a1 v1.i
  have fin : ∀ (bk wn wt c' : Int) (bad' : Bool), e.Fit b → 0 ≤ c' → c' < 1099511627776 → Rc.uint.F N (hi8 rate - lo8 rate + 1) (e.rd b).rng (e.rd b).val (e.rd b).last (fr b (e.rd b).m) 0 0 0 (33 + 8 * (e.k : Int)) false b =
      some (lag - lo8 rate, ((e.un (lag - lo8 rate) (hi8 rate - lo8 rate + 1)).rd b).rng, ((e.un (lag - lo8 rate) (hi8 rate - lo8 rate + 1)).rd b).val, ((e.un (lag - lo8 rate) (hi8 rate - lo8 rate + 1)).rd b).last, fr b ((e.un (lag - lo8 rate) (hi8 rate - lo8 rate + 1)).rd b).m, bk, wn, wt, c', bad') →
      e.Fit b ∧ ∃ t, Rc.greadltp.F N rate (e.rd b).rng (e.rd b).val (e.rd b).last (fr b (e.rd b).m) 0 0 0 (33 + 8 * (e.k : Int)) false b = some (lag, taps, t) := by
    intro bk wn wt c' bad' hfe c0 c1 hu
    refine ⟨hfe, ?_⟩
    unfold Rc.greadltp.F
    simp only [chkI_same, chkB_same, chkL_same, pair0, pair1, br_beq]
    rw [glags_F, obind_of]
    simp only
    rw [if_neg (by omega), i64 (x := hi8 rate - lo8 rate) (by omega) (by omega), i64 (x := hi8 rate - lo8 rate + 1) (by omega) (by omega), hu, obind_of]
    simp only
    rw [gsymbol_F hb (by omega) hrdu g6 c0 c1 (by omega), obind_of]
    simp only
    rw [v2, i64 (x := lo8 rate + (lag - lo8 rate)) (by omega) (by omega), show lo8 rate + (lag - lo8 rate) = lag by omega, show ((taps.toNat : Nat) : Int) = taps by omega]
    exact ⟨_, rfl⟩
  by_cases c : hi8 rate - lo8 rate + 1 ≤ 256
  · obtain ⟨u1, u2, u3, _⟩ := E.us_back hb h (v := lag - lo8 rate) (ft := hi8 rate - lo8 rate + 1) (by omega) (by omega) (by omega) c v1
    have hrd := E.rd_ok hb h u1.i
    have hm := ct_range (b := b) (Q.un_m b (e.rd b) (hi8 rate - lo8 rate + 1)) (33 + 8 * (e.k : Int))
    refine fin 0 0 0 (ct (33 + 8 * (e.k : Int)) (e.rd b) ((e.rd b).un b (hi8 rate - lo8 rate + 1))) false u1 (by omega) (by omega) ?_
    rw [uint_small hb (by omega) hrd (by omega) c (by omega) (by omega) (by omega), u2, u3]
  · obtain ⟨u1, u2, u3, _⟩ := E.ug_back hb h (v := lag - lo8 rate) (ft := hi8 rate - lo8 rate + 1) (by omega) (by omega) (by omega) (by omega) v1 (w := W.new) (by rw [hr]; exact ⟨rfl, rfl⟩)
    have hrd := E.rd_ok hb h u1.i
    have hm := ct_range (b := b) (Q.un_m b (e.rd b) (hi8 rate - lo8 rate + 1)) (33 + 8 * (e.k : Int))
    have hub := ub_range (ft := hi8 rate - lo8 rate + 1) (by omega) (by omega)
    have hg := uint_great (N := N) (count := 33 + 8 * (e.k : Int)) (bad := false) hb (by omega) hrd W.new_ok (ft := hi8 rate - lo8 rate + 1) (by omega) (by omega) (by omega) (by omega) (by omega)
    rw [u2, if_neg (by omega), u3.symm] at hg
    rw [← u3] at hm
    exact fin _ _ _ _ _ u1 (by omega) (by omega) hg
end

theorem gainBack_pure (l : List Int) (rate lag taps : Int) : ∃ N, Rc.gainBack.F N l rate lag taps = some true := by
  refine ⟨30000, ?_⟩
  unfold Rc.gainBack.F
  rw [awake8_F (by omega), obind_of]
  simp only [br_not, if_true, br_dec, br_beq, br_bne]
  by_cases k1 : l.length > 30
  · rw [if_pos (by omega)]
  by_cases k2 : l.length = 0
  · rw [if_neg (by omega), if_pos (by omega)]
  rw [if_neg (by omega), if_neg (by omega), enew_F, obind_of, chk_pos (by omega), show Int.toNat 0 = 0 from rfl]
  simp only
  generalize l.getD 0 0 = g0
  rw [gwritefirst_F (by omega), obind_of]
  by_cases k3 : g0 < 0
  · rw [if_pos (Or.inl k3)]
    simp only
    rw [if_neg (by omega), chk_pos (by omega), if_pos k3]
  by_cases k4 : g0 > 63
  · rw [if_pos (Or.inr k4)]
    simp only
    rw [if_neg (by omega), chk_pos (by omega), if_neg k3, chk_pos (by omega)]
    exact congrArg some (decide_eq_true k4)
  rw [if_neg (show ¬ (g0 < 0 ∨ g0 > 63) by omega)]
  simp only [if_true]
  obtain ⟨f1, f2, f3, f4, f5⟩ := ef_facts (g := g0) (by omega) (by omega)
  have hw := gwrite_loop (N := 30000) (l := l) (rate := rate) (lag := lag) (taps := taps) (by omega) (by omega) 30000 (l.length - 1) 1 (ef (g0)) (g0) [] f1 f2 (by omega) (by omega) (by simp) (by omega) (by omega) (by omega)
  rw [show ((1 : Nat) : Int) = 1 from rfl] at hw
  rw [chk_pos (by omega), hw, osum_inl]
  obtain ⟨w1, w2, w3, w4, w5, w6, w7, w8, w9, w10⟩ := gwr_facts l (l.length - 1) 1 (ef (g0)) (g0) [] f1 (by omega) (by omega)
  generalize hG : gwr l (l.length - 1) 1 (ef (g0)) (g0) [] = G at *
  obtain ⟨e, W', O⟩ := G
  simp only at w1 w2 w3 w4 w5 w6 w7 w8 w9 w10 ⊢
  have hr0 : e.r = 0 := by omega
  have low : e.Low := ⟨by omega, by omega⟩
  rw [rlags_F, obind_of]
  simp only
  -- what is read in the end
  have tail : ∀ {e' : E}, e'.Ok → e'.Low → e'.tell ≤ 1600 → ∃ b, Bytes b ∧ b.length ≤ 300 ∧ e'.Fit b ∧ Rc.edone.F 30000 200 e'.val e'.rng e'.r e'.count e'.told e'.bits = some (0, b) ∧
      Rc.new.F 30000 b = some ((Q.new b).rng, (Q.new b).val, (Q.new b).last, fr b (Q.new b).m, 0, 0, 0, cnew b, false, b) := by
    intro e' h1 h2 h3
    have hfit := (E.out_fit h1 (n := 200) (by omega)).2.2.2.2
    refine ⟨tb 200 (e'.out 200), tb_bytes _ _, by rw [tb_len]; omega, hfit, ?_, new_F (tb_bytes _ _) (by rw [tb_len]; omega) (by omega)⟩
    rw [edone_F h1 (h2.lim (by omega)) (by omega), if_neg (by omega), if_neg (by omega)]
    rfl
  have rest : ∀ {b : List Int}, Bytes b → b.length ≤ 300 → e.Fit b →
      Rc.greadfirst.F 30000 (Q.new b).rng (Q.new b).val (Q.new b).last (fr b (Q.new b).m) 0 0 0 (cnew b) false b =
        some (g0, ((ef (g0)).rd b).rng, ((ef (g0)).rd b).val, ((ef (g0)).rd b).last, fr b ((ef (g0)).rd b).m, 0, 0, 0, 33 + 8 * ((ef (g0)).k : Int), false) ∧
      Rc.gainBack.loop32 30000 l rate lag taps 30000 0 0 0 false O b (g0) 0 ((ef (g0)).rd b).rng ((ef (g0)).rd b).val ((ef (g0)).rd b).last (fr b ((ef (g0)).rd b).m) (33 + 8 * ((ef (g0)).k : Int)) false =
        some (.inl (W', (e.rd b).rng, (e.rd b).val, (e.rd b).last, fr b (e.rd b).m, 33 + 8 * (e.k : Int), false)) := by
    intro b hb hlb hf
    obtain ⟨h1, h2⟩ := gback_loop (N := 30000) (l0 := l) (rate := rate) (lag := lag) (taps := taps) (l := l) hb hlb (by omega) (by omega) (back := 0) (window := 0) (waiting := 0) (bad := false) false hf (by simp at w9; omega) 30000 (l.length - 1) 1 (ef (g0)) (g0) [] hG f1 (by simp; omega) (by omega) (by omega) (by omega)
    exact ⟨gback_first hb hlb (by omega) (by omega) (by omega) h1, h2⟩
  by_cases hm : mayL rate lag taps
  · obtain ⟨g1, g2, g3, g4⟩ := gwriteltp_may (N := 30000) w1 low (by omega) hr0 (by omega) hm
    obtain ⟨b, hb, hlb, hfit, hd, hn⟩ := tail g2 g3 (by omega)
    obtain ⟨q1, t, q2⟩ := gback_ltp (N := 30000) hb hlb w1 (by omega) hr0 (by omega) hm hfit
    obtain ⟨p1, p2⟩ := rest hb hlb q1
    obtain ⟨m1, m2, m3, m4, m5⟩ := hm
    rw [if_pos m1, if_pos m2, if_pos m3, if_pos m4, g1, obind_of]
    simp only
    rw [if_pos (by rw [decide_eq_true m5]; decide)]
    simp only [if_true]
    rw [hd, obind_of]
    simp only [if_true]
    rw [hn, obind_of]
    simp only
    rw [p1, obind_of]
    simp only [if_true]
    rw [chk_pos (by omega), chk_pos (by omega), p2, osum_inl]
    simp only
    rw [if_pos (decide_eq_true m5), q2, obind_of]
    simp [chkI_same]
  · have g1 := gwriteltp_not (N := 30000) (e := e) hm
    obtain ⟨b, hb, hlb, hfit, hd, hn⟩ := tail w1 low (by omega)
    obtain ⟨p1, p2⟩ := rest hb hlb hfit
    unfold mayL at hm
    have fin : ∀ {X : Option Bool}, X = some true → X = some true := fun h => h
    by_cases m1 : hi8 rate > 0
    · rw [if_pos m1]
      by_cases m2 : lag ≥ lo8 rate
      · rw [if_pos m2]
        by_cases m3 : lag ≤ hi8 rate
        · rw [if_pos m3]
          by_cases m4 : taps ≥ 0
          · have m5 : ¬ taps ≤ 7 := fun h => hm ⟨m1, m2, m3, m4, h⟩
            rw [if_pos m4, g1, obind_of]
            simp only
            rw [if_pos (by rw [decide_eq_false m5]; decide), if_neg (by decide)]
            simp only [if_true]
            rw [hd, obind_of]
            simp only [if_true]
            rw [hn, obind_of]
            simp only
            rw [p1, obind_of]
            simp only [if_true]
            rw [chk_pos (by omega), chk_pos (by omega), p2, osum_inl]
            simp only
            rw [if_neg (by rw [decide_eq_false m5]; decide)]
          · rw [if_neg m4, g1, obind_of]
            simp only
            rw [if_pos (by decide), if_neg (by decide)]
            simp only [if_true]
            rw [hd, obind_of]
            simp only [if_true]
            rw [hn, obind_of]
            simp only
            rw [p1, obind_of]
            simp only [if_true]
            rw [chk_pos (by omega), chk_pos (by omega), p2, osum_inl]
        · rw [if_neg m3, g1, obind_of]
          simp only
          rw [if_pos (by decide), if_neg (by decide)]
          simp only [if_true]
          rw [hd, obind_of]
          simp only [if_true]
          rw [hn, obind_of]
          simp only
          rw [p1, obind_of]
          simp only [if_true]
          rw [chk_pos (by omega), chk_pos (by omega), p2, osum_inl]
      · rw [if_neg m2, g1, obind_of]
        simp only
        rw [if_pos (by decide), if_neg (by decide)]
        simp only [if_true]
        rw [hd, obind_of]
        simp only [if_true]
        rw [hn, obind_of]
        simp only
        rw [p1, obind_of]
        simp only [if_true]
        rw [chk_pos (by omega), chk_pos (by omega), p2, osum_inl]
    · rw [if_neg m1, g1, obind_of]
      simp only
      rw [if_pos (by decide), if_neg (by decide)]
      simp only [if_true]
      rw [hd, obind_of]
      simp only [if_true]
      rw [hn, obind_of]
      simp only
      rw [p1, obind_of]
      simp only [if_true]
      rw [chk_pos (by omega), chk_pos (by omega), p2, osum_inl]
end Go.Pl
