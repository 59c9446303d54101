/-
  Chapter 4's statements in plain words: all that is written is read.
  Conditions: none.
-/
import Derived.Test.YtlbdcahecabfkaaPlLaw4
set_option linter.unusedSimpArgs false
set_option linter.unusedVariables false
namespace Go.Pl
open Go.Eng Go.Proofs

theorem chkR_same {Y : Type} (x : List (List Int)) (k : Option Y) : chkR x x k = k := by unfold chkR; rw [if_pos rfl]
/-- A place among the bits from the end. -/
theorem W.some_at (b : List Int) (P : Nat) : ∃ w : W, w.Ok ∧ w.At b P := by
  obtain ⟨r0, r1⟩ := bsum_range b P (8 * ((P + 7) / 8) - P)
  exact ⟨⟨bsum b P (8 * ((P + 7) / 8) - P), 8 * ((P + 7) / 8) - P, (P + 7) / 8⟩, ⟨r0, r1, by simp only; omega⟩, ⟨by simp only; omega, rfl⟩⟩
theorem ct_rd4 {b : List Int} {e e' : E} (h : e.k ≤ e'.k) (hr : e'.r = e.r) : ct e.count (e.rd b) (e'.rd b) = e'.count := by
  rw [← E.count_on h hr]
  unfold ct
  show _ + 8 * (((e'.k + 4) - (e.k + 4) : Nat) : Int) = _
  rw [show e'.k + 4 - (e.k + 4) = e'.k - e.k by omega]

theorem icdf_range {n v : Int} (h0 : 0 ≤ v) (h1 : v < (icdfT n).length) : 0 ≤ n ∧ n ≤ 8 := by
  by_cases h : 0 ≤ n ∧ n ≤ 8
  · exact h
  · have : icdfT n = [] := by
      unfold icdfT
      repeat rw [if_neg (by omega)]
    rw [this] at h1
    simp at h1
    omega

section
variable {N : Nat}
open Classical in
theorem mayw_F (hN : 300 ≤ N) (a : Rc.Act4) (hn : -9223372036854775808 ≤ a.n ∧ a.n < 9223372036854775808) : Rc.mayw.F N a.op a.v a.n a.m a.t = some (decide (Wmay a)) := by
  unfold Rc.mayw.F
  simp only [br_beq, br_dec, chkI_same]
  by_cases h0 : a.op = 0
  · have hm : Wmay a ↔ GoodT a.t ∧ 0 ≤ a.v ∧ a.v < a.t.length := by unfold Wmay; rw [if_pos h0]
    rw [if_pos h0, rgood_F _ hN, obind_of]
    simp only [hm]
    by_cases g : GoodT a.t
    · rw [goodT_true.2 g, br_true]
      by_cases c : 0 ≤ a.v
      · rw [if_pos (by omega)]; simp [g, c]
      · rw [if_neg (by omega)]; simp [c]
    · rw [goodT_false.2 g, br_false]; simp [g]
  rw [if_neg h0]
  by_cases h1 : a.op = 1
  · have hm : Wmay a ↔ 1 ≤ a.n ∧ a.n ≤ 15 := by unfold Wmay; rw [if_neg h0, if_pos h1]
    rw [if_pos h1]
    simp only [hm]
    by_cases c : 1 ≤ a.n
    · rw [if_pos (by omega)]; simp [c]
    · rw [if_neg (by omega)]; simp [c]
  rw [if_neg h1]
  by_cases h2 : a.op = 2
  · have hm : Wmay a ↔ 0 ≤ a.n ∧ a.n ≤ 24 ∧ 0 ≤ a.v ∧ a.v < 2 ^ a.n.toNat := by unfold Wmay; rw [if_neg h0, if_neg h1, if_pos h2]
    rw [if_pos h2]
    simp only [hm]
    by_cases c : 0 ≤ a.n
    · rw [if_pos (by omega)]
      by_cases d : a.n ≤ 24
      · rw [if_pos d]
        by_cases f : 0 ≤ a.v
        · have hp : (2 : Int) ^ a.n.toNat ≤ 16777216 := p2le (a := a.n.toNat) (b := 24) (by omega)
          have hp0 := p2pos a.n.toNat
          rw [if_pos (by omega), u64 (by omega) (by omega), chk_pos (by omega), show min a.n.toNat IntKind.i64.bits = a.n.toNat by rw [bits_i64]; omega, i64 (by omega) (by omega)]
          simp [c, d, f]
        · rw [if_neg (by omega)]; simp [f]
      · rw [if_neg d]; simp [d]
    · rw [if_neg (by omega)]; simp [c]
  rw [if_neg h2]
  by_cases h3 : a.op = 3
  · have hm : Wmay a ↔ 1 ≤ a.n ∧ a.n ≤ 4294967295 ∧ 0 ≤ a.v ∧ a.v < a.n := by unfold Wmay; rw [if_neg h0, if_neg h1, if_neg h2, if_pos h3]
    rw [if_pos h3]
    simp only [hm]
    by_cases c : 1 ≤ a.n
    · rw [if_pos (by omega)]
      by_cases d : a.n ≤ 4294967295
      · rw [if_pos d]
        by_cases f : 0 ≤ a.v
        · rw [if_pos (by omega)]; simp [c, d, f]
        · rw [if_neg (by omega)]; simp [f]
      · rw [if_neg d]; simp [d]
    · rw [if_neg (by omega)]; simp [c]
  rw [if_neg h3]
  by_cases h4 : a.op = 4
  · have hm : Wmay a ↔ 256 ≤ a.n ∧ a.n ≤ 28000 ∧ 0 ≤ a.m ∧ a.m ≤ 16000 := by unfold Wmay; rw [if_neg h0, if_neg h1, if_neg h2, if_neg h3, if_pos h4]
    rw [if_pos h4]
    simp only [hm]
    by_cases c : 256 ≤ a.n
    · rw [if_pos (by omega)]
      by_cases d : a.n ≤ 28000
      · rw [if_pos d]
        by_cases f : 0 ≤ a.m
        · rw [if_pos (by omega)]; simp [c, d, f]
        · rw [if_neg (by omega)]; simp [f]
      · rw [if_neg d]; simp [d]
    · rw [if_neg (by omega)]; simp [c]
  · have hm : Wmay a ↔ GoodT (icdfT a.n) ∧ 0 ≤ a.v ∧ a.v < (icdfT a.n).length := by unfold Wmay; rw [if_neg h0, if_neg h1, if_neg h2, if_neg h3, if_neg h4]
    rw [if_neg h4]
    by_cases f : 0 ≤ a.v
    · by_cases c : 0 ≤ a.n ∧ a.n ≤ 8
      · have g := icdf_good c.1 c.2
        rw [if_pos (by omega), if_pos c.2, if_pos (by omega), icdf_F, obind_of]
        simp only [hm]
        simp [g, f]
      · have hn : ¬ Wmay a := fun hh => c (icdf_range f (hm.1 hh).2.2)
        rw [decide_eq_false hn]
        by_cases c1 : a.n ≥ 0
        · rw [if_pos c1, if_neg (by omega)]
        · rw [if_neg c1]
    · have hn : ¬ Wmay a := fun hh => f (hm.1 hh).2.1
      rw [decide_eq_false hn]
      by_cases c1 : a.n ≥ 0
      · rw [if_pos c1]
        by_cases c2 : a.n ≤ 8
        · rw [if_pos c2, if_neg (by omega)]
        · rw [if_neg c2]
      · rw [if_neg c1]

theorem count_range {e : E} (h : e.Low) : 0 ≤ e.count ∧ e.count < 1099511600000 := by
  have := h.k
  have := h.r
  unfold E.count
  omega

theorem wr_back {b : List Int} (hb : Bytes b) (hl : b.length ≤ 2000) (hN : 30000 ≤ N) {e : E} (h : e.Ok) (he : e.Low) {a : Rc.Act4} (m : Wmay a) (hv : a.v < 9223372036854775808) (hf : (e.wr a).Fit b) {w : W} (hw : w.Ok) (hat : w.At b e.r) (eq : Int) :
    e.Fit b ∧ ∃ (w' : W) (eq' : Int), w'.Ok ∧ w'.At b (e.wr a).r ∧
      Rc.rreads.F N a.op a.v a.n a.m (Wval a) (e.rd b).rng (e.rd b).val (e.rd b).last (fr b (e.rd b).m) (fr b w.k) w.win (w.wai : Int) e.count eq false a.t b =
        some (((e.wr a).rd b).rng, ((e.wr a).rd b).val, ((e.wr a).rd b).last, fr b ((e.wr a).rd b).m, fr b w'.k, w'.win, (w'.wai : Int), (e.wr a).count, eq', true, false) := by
  have hc := count_range he
  unfold Rc.rreads.F
  simp only [br_beq, chkL_same]
  by_cases h0 : a.op = 0
  · have hm : GoodT a.t ∧ 0 ≤ a.v ∧ a.v < a.t.length := by unfold Wmay at m; rwa [if_pos h0] at m
    have hwr : e.wr a = e.sy a.v.toNat a.t := by unfold E.wr; rw [if_pos h0]
    have hval : Wval a = a.v := by unfold Wval; rw [if_neg (by omega), if_neg (by omega)]
    rw [hwr] at hf ⊢
    have hs := E.tk_same e (symL a.t a.v.toNat) (256 - a.t.getD a.v.toNat 0) 256
    obtain ⟨k1, k2, k3⟩ := E.sy_back hb h hm.1 (s := a.v.toNat) (by omega) hf
    have hrd := E.rd_ok hb h k1.i
    obtain ⟨e1, r1⟩ := (rsymbol_F (N := N) (back := fr b w.k) (wait := w.win) (waiting := (w.wai : Int)) (count := e.count) (eq := eq) (bad := false) hb (by omega) hrd a.t hc.1 (by omega) (by omega)).1 hm.1
    refine ⟨k1, w, e1, hw, by rw [show (e.sy a.v.toNat a.t).r = e.r from hs.1]; exact hat, ?_⟩
    rw [if_pos h0, r1, obind_of, hval]
    simp only
    rw [k2, ← k3, ct_rd4 (e' := e.sy a.v.toNat a.t) hs.2.2.1 hs.1, show (((a.v.toNat : Nat) : Int) == a.v) = true by simp; omega]
  rw [if_neg h0]
  by_cases h1 : a.op = 1
  · have hm : 1 ≤ a.n ∧ a.n ≤ 15 := by unfold Wmay at m; rwa [if_neg h0, if_pos h1] at m
    have hwr : e.wr a = e.fl (a.v % 2 == 1) a.n.toNat := by unfold E.wr; rw [if_neg h0, if_pos h1]
    have hval : Wval a = a.v % 2 := by unfold Wval; rw [if_pos h1]
    rw [hwr] at hf ⊢
    have hs := E.fl_same e (a.v % 2 == 1) a.n.toNat
    obtain ⟨k1, k2, k3⟩ := E.fl_back hb h hm.1 hm.2 hf
    have hrd := E.rd_ok hb h k1.i
    refine ⟨k1, w, eq, hw, by rw [hs.1]; exact hat, ?_⟩
    rw [if_pos h1, rflag_F hb (by omega) hrd a.n hc.1 (by omega) (by omega), if_pos hm, obind_of, hval]
    simp only
    rw [k2, ← k3, ct_rd4 (e' := e.fl (a.v % 2 == 1) a.n.toNat) hs.2.2.1 hs.1]
    simp
  rw [if_neg h1]
  by_cases h2 : a.op = 2
  · have hm : 0 ≤ a.n ∧ a.n ≤ 24 ∧ 0 ≤ a.v ∧ a.v < 2 ^ a.n.toNat := by unfold Wmay at m; rwa [if_neg h0, if_neg h1, if_pos h2] at m
    have hwr : e.wr a = e.bt a.v a.n.toNat := by unfold E.wr; rw [if_neg h0, if_neg h1, if_pos h2]
    have hval : Wval a = a.v := by unfold Wval; rw [if_neg (by omega), if_neg (by omega)]
    rw [hwr] at hf ⊢
    obtain ⟨k1, k2, k3, k4⟩ := E.bt_back hb h (v := a.v) (n := a.n.toNat) (by omega) hm.2.2.1 hm.2.2.2 hf hat
    refine ⟨k1, w.next b a.n.toNat, eq, W.next_ok hb hw (by omega), k3, ?_⟩
    rw [if_pos h2, rbits_F hb (by omega) hw a.n hc.1 (by omega) (by omega), if_pos ⟨hm.1, hm.2.1⟩, obind_of, hval]
    simp only
    rw [k2, k4, show e.count + a.n = (e.bt a.v a.n.toNat).count by simp only [E.count, E.bt]; omega]
    simp
  rw [if_neg h2]
  by_cases h3 : a.op = 3
  · have hm : 1 ≤ a.n ∧ a.n ≤ 4294967295 ∧ 0 ≤ a.v ∧ a.v < a.n := by unfold Wmay at m; rwa [if_neg h0, if_neg h1, if_neg h2, if_pos h3] at m
    have hwr : e.wr a = e.un a.v a.n := by unfold E.wr; rw [if_neg h0, if_neg h1, if_neg h2, if_pos h3]
    have hval : Wval a = a.v := by unfold Wval; rw [if_neg (by omega), if_neg (by omega)]
    rw [hwr] at hf ⊢
    rw [if_pos h3, hval]
    by_cases c1 : a.n = 1
    · have hu : e.un a.v a.n = e := by unfold E.un; rw [if_pos c1]
      have hv0 : a.v = 0 := by omega
      rw [hu] at hf ⊢
      refine ⟨hf, w, eq, hw, hat, ?_⟩
      rw [ruint_out (Or.inl (by omega)), obind_of, hv0]
      simp
    by_cases c2 : a.n ≤ 256
    · obtain ⟨u1, u2, u3, u4⟩ := E.us_back hb h hm.2.2.1 hm.2.2.2 (by omega) c2 hf
      have hrd := E.rd_ok hb h u1.i
      obtain ⟨e1, r1⟩ := ruint_small (N := N) (back := fr b w.k) (wait := w.win) (waiting := (w.wai : Int)) (count := e.count) (eq := eq) (bad := false) hb (by omega) hrd (ft := a.n) (by omega) c2 hc.1 (by omega) (by omega)
      have hk := (E.wr_size (e := e) m).1
      rw [hwr] at hk
      refine ⟨u1, w, e1, hw, by rw [u4]; exact hat, ?_⟩
      rw [r1, obind_of]
      simp only
      rw [u2, ← u3, ct_rd4 (e' := e.un a.v a.n) hk u4]
      simp
    · obtain ⟨u1, u2, u3, u4, u5⟩ := E.ug_back hb h hm.2.2.1 hm.2.2.2 (by omega) hm.2.1 hf hat
      have hrd := E.rd_ok hb h u1.i
      obtain ⟨b0, b1, _⟩ := ub_range (ft := a.n) (by omega) hm.2.1
      obtain ⟨e1, r1⟩ := ruint_great (N := N) (count := e.count) (eq := eq) (bad := false) hb (by omega) hrd hw (ft := a.n) (by omega) hm.2.1 hc.1 (by omega) (by omega)
      have hk := (E.wr_size (e := e) m).1
      rw [hwr] at hk
      refine ⟨u1, w.next b (ub a.n), e1, W.next_ok hb hw b1, u4, ?_⟩
      rw [r1, obind_of, u2, if_neg (by omega), show decide (a.v ≥ a.n) = false by simp; omega]
      simp only
      have hct : ct e.count (e.rd b) ((e.un a.v a.n).rd b) + (ub a.n : Int) = (e.un a.v a.n).count := by
        unfold ct
        show e.count + 8 * ((((e.un a.v a.n).k + 4) - (e.k + 4) : Nat) : Int) + _ = _
        unfold E.count
        rw [u5]
        omega
      rw [← u3, hct]
      simp
  rw [if_neg h3]
  by_cases h4 : a.op = 4
  · have hm : 256 ≤ a.n ∧ a.n ≤ 28000 ∧ 0 ≤ a.m ∧ a.m ≤ 16000 := by unfold Wmay at m; rwa [if_neg h0, if_neg h1, if_neg h2, if_neg h3, if_pos h4] at m
    have hwr : e.wr a = e.la a.v a.n a.m := by unfold E.wr; rw [if_neg h0, if_neg h1, if_neg h2, if_neg h3, if_pos h4]
    have hval : Wval a = lapV a.v a.n a.m := by unfold Wval; rw [if_neg h1, if_pos h4, if_pos hm]
    rw [hwr] at hf ⊢
    have hs := E.tk_same e (lapP a.n a.m (max a.v (-32768))).2.1 (lapP a.n a.m (max a.v (-32768))).2.2 32768
    obtain ⟨k1, k2, k3⟩ := E.la_back hb h hm.1 hm.2.1 hm.2.2.1 hm.2.2.2 hv hf
    have hrd := E.rd_ok hb h k1.i
    obtain ⟨e1, r1⟩ := rlaplace_F (N := N) (back := fr b w.k) (wait := w.win) (waiting := (w.wai : Int)) (eq := eq) (bad := false) (count := e.count) hb (by omega) hrd (fs := a.n) (decay := a.m) hm.1 hm.2.1 hm.2.2.1 hm.2.2.2 hc.1 (by omega) (by omega)
    refine ⟨k1, w, e1, hw, by rw [show (e.la a.v a.n a.m).r = e.r from hs.1]; exact hat, ?_⟩
    rw [if_pos h4, r1, obind_of, hval]
    simp only
    rw [k2, ← k3, ct_rd4 (e' := e.la a.v a.n a.m) hs.2.2.1 hs.1]
    simp
  · have hm : GoodT (icdfT a.n) ∧ 0 ≤ a.v ∧ a.v < (icdfT a.n).length := by unfold Wmay at m; rwa [if_neg h0, if_neg h1, if_neg h2, if_neg h3, if_neg h4] at m
    have hwr : e.wr a = e.sy a.v.toNat (icdfT a.n) := by unfold E.wr; rw [if_neg h0, if_neg h1, if_neg h2, if_neg h3, if_neg h4]
    have hval : Wval a = a.v := by unfold Wval; rw [if_neg (by omega), if_neg (by omega)]
    rw [hwr] at hf ⊢
    have hs := E.tk_same e (symL (icdfT a.n) a.v.toNat) (256 - (icdfT a.n).getD a.v.toNat 0) 256
    obtain ⟨k1, k2, k3⟩ := E.sy_back hb h hm.1 (s := a.v.toNat) (by omega) hf
    have hrd := E.rd_ok hb h k1.i
    obtain ⟨e1, r1⟩ := (rsymbol_F (N := N) (back := fr b w.k) (wait := w.win) (waiting := (w.wai : Int)) (count := e.count) (eq := eq) (bad := false) hb (by omega) hrd (icdfT a.n) hc.1 (by omega) (by omega)).1 hm.1
    refine ⟨k1, w, e1, hw, by rw [show (e.sy a.v.toNat (icdfT a.n)).r = e.r from hs.1]; exact hat, ?_⟩
    rw [if_neg h4, icdf_F, obind_of, r1, obind_of, hval]
    simp only
    rw [k2, ← k3, ct_rd4 (e' := e.sy a.v.toNat (icdfT a.n)) hs.2.2.1 hs.1, show (((a.v.toNat : Nat) : Int) == a.v) = true by simp; omega]
end

/-- A writing as a row. -/
def rowA (a : Rc.Act4) : List Int := a.op :: a.v :: a.n :: a.m :: a.t
def wrs (D : List Rc.Act4) (e : E) : E := D.foldl E.wr e
theorem wrs_snoc (D : List Rc.Act4) (a : Rc.Act4) (e : E) : wrs (D ++ [a]) e = (wrs D e).wr a := by simp [wrs]

structure Dn (l D : List Rc.Act4) : Prop where
  m : ∀ a ∈ D, Wmay a
  i : ∀ a ∈ D, a ∈ l

theorem wrs_facts {D : List Rc.Act4} {e : E} (h : e.Ok) (hm : ∀ a ∈ D, Wmay a) (hv : ∀ a ∈ D, a.v < 9223372036854775808) : (wrs D e).Ok ∧ e.k ≤ (wrs D e).k ∧ (wrs D e).k ≤ e.k + 4 * D.length ∧ e.r ≤ (wrs D e).r ∧ (wrs D e).r ≤ e.r + 24 * D.length ∧ e.tell ≤ (wrs D e).tell := by
  induction D generalizing e with
  | nil => exact ⟨h, by simp [wrs], by simp [wrs], by simp [wrs], by simp [wrs], by simp [wrs]⟩
  | cons a D ih =>
    have h1 := E.wr_size (e := e) (hm a (by simp))
    have h2 := E.wr_tell h (hm a (by simp)) (hv a (by simp))
    obtain ⟨i1, i2, i3, i4, i5, i6⟩ := ih (e := e.wr a) (E.wr_ok h (hm a (by simp)) (hv a (by simp))) (fun x hx => hm x (by simp [hx])) (fun x hx => hv x (by simp [hx]))
    have e1 : wrs (a :: D) e = wrs D (e.wr a) := rfl
    rw [e1, List.length_cons]
    exact ⟨i1, by omega, by omega, by omega, by omega, by omega⟩

section
variable {N : Nat}
open Classical in
theorem rback_write {l : List Rc.Act4} {bytes : Int} (hN : 30000 ≤ N) (hll : l.length ≤ 100) (ht : ∀ a ∈ l, a.t.length ≤ 17592186043904) (hv : ∀ a ∈ l, a.v < 9223372036854775808) (hn : ∀ a ∈ l, -9223372036854775808 ≤ a.n ∧ a.n < 9223372036854775808) :
    ∀ (nn k : Nat) (D : List Rc.Act4), Dn l D → D.length ≤ k → k ≤ l.length → l.length - k < nn → ∃ D', Dn l D' ∧ D'.length ≤ l.length ∧
      Rc.rencBack.loop11 N l bytes nn (k : Int) (wrs D E.new).val (wrs D E.new).rng ((wrs D E.new).r : Int) (wrs D E.new).count false (D.map Wval) (wrs D E.new).told (wrs D E.new).bits (D.map rowA) =
        some (.inl ((wrs D' E.new).val, (wrs D' E.new).rng, ((wrs D' E.new).r : Int), (wrs D' E.new).count, false, D'.map Wval, (wrs D' E.new).told, (wrs D' E.new).bits, D'.map rowA))
  | 0, k, D, _, _, _, h => by omega
  | nn + 1, k, D, hD, hk0, hk, h0 => by
    unfold Rc.rencBack.loop11
    simp only [br_dec, br_bne]
    obtain ⟨h, f2, f3, f4, f5, f6⟩ := wrs_facts E.new_ok hD.m (fun a ha => hv a (hD.i a ha))
    have hk1 : E.new.k = 0 := rfl
    have hr1 : E.new.r = 0 := rfl
    by_cases hlt : k < l.length
    · have hmem : l.getD k Rc.Act4.nil ∈ l := by rw [List.getD_eq_getElem?_getD, List.getElem?_eq_getElem hlt]; exact List.getElem_mem hlt
      have low : (wrs D E.new).Low := ⟨by omega, by omega⟩
      rw [if_pos (by omega), etell_F h (low.lim hN), obind_of, chk_pos (by omega), Int.toNat_natCast]
      have ih := fun D' a1 a2 => rback_write (bytes := bytes) hN hll ht hv hn nn (k + 1) D' a1 a2 (by omega) (by omega)
      rw [show ((k + 1 : Nat) : Int) = (k : Int) + 1 by omega] at ih
      have hav := hv _ hmem
      have hat := ht _ hmem
      have han := hn _ hmem
      generalize l.getD k Rc.Act4.nil = a at *
      obtain ⟨g1, g2, g3, g4, g5, g6, g7⟩ := E.go_facts h a hav
      have low2 : ((wrs D E.new).go a).Low := ⟨by omega, by omega⟩
      rw [written_F h low hN a hat hav, obind_of, chk_pos (by omega), mayw_F (by omega) a han, obind_of]
      simp only
      rw [i64 (x := (k : Int) + 1) (by omega) (by omega)]
      by_cases m : Wmay a
      · have hgo : (wrs D E.new).go a = wrs (D ++ [a]) E.new := by rw [wrs_snoc]; unfold E.go; rw [if_pos m]
        rw [if_pos m, decide_eq_true m]
        simp only [Bool.not_true, br_false, if_true]
        rw [etell_F g1 (low2.lim hN), obind_of, if_neg (nlt g6), chk_pos (by simp only [List.length_map, List.length_singleton]; omega), chk_pos (by omega), chk_pos (by simp only [List.length_map]; omega), hgo]
        have := ih (D ++ [a]) ⟨fun x hx => by
          rcases List.mem_append.1 hx with hx | hx
          · exact hD.m x hx
          · rw [List.mem_singleton.1 hx]; exact m, fun x hx => by
          rcases List.mem_append.1 hx with hx | hx
          · exact hD.i x hx
          · rw [List.mem_singleton.1 hx]; exact hmem⟩ (by simp only [List.length_append, List.length_singleton]; omega)
        rw [List.map_append, List.map_append] at this
        exact this
      · have hgo : (wrs D E.new).go a = wrs D E.new := by unfold E.go; rw [if_neg m]
        rw [if_neg m, decide_eq_false m]
        simp only [Bool.not_false, br_true, if_true]
        rw [etell_F g1 (low2.lim hN), obind_of, hgo, if_pos rfl]
        exact ih D hD (by omega)
    · rw [if_neg (by omega)]
      exact ⟨D, hD, by omega, rfl⟩

theorem rback_read {l0 : List Rc.Act4} {bytes : Int} {b : List Int} (hb : Bytes b) (hl : b.length ≤ 2000) (hN : 30000 ≤ N) {D : List Rc.Act4} (hDl : D.length ≤ 100) (hm : ∀ a ∈ D, Wmay a) (hv : ∀ a ∈ D, a.v < 9223372036854775808) (ht : (wrs D E.new).tell ≤ 8 * (b.length : Int)) (hf : (wrs D E.new).Fit b) :
    ∀ (nn : Nat) (D2 D1 : List Rc.Act4), D1 ++ D2 = D → D2.length < nn → (wrs D1 E.new).Fit b ∧ ∀ (w : W) (eq : Int), w.Ok → w.At b (wrs D1 E.new).r →
      ∃ bk wn wt eq', Rc.rencBack.loop29 N l0 bytes nn (D.map Wval) b (D.map rowA) (D1.length : Int) ((wrs D1 E.new).rd b).rng ((wrs D1 E.new).rd b).val ((wrs D1 E.new).rd b).last (fr b ((wrs D1 E.new).rd b).m) (fr b w.k) w.win (w.wai : Int) (wrs D1 E.new).count eq false false =
        some (.inl (((wrs D E.new).rd b).rng, ((wrs D E.new).rd b).val, ((wrs D E.new).rd b).last, fr b ((wrs D E.new).rd b).m, bk, wn, wt, (wrs D E.new).count, eq', false, false))
  | 0, D2, D1, _, h => by omega
  | nn + 1, [], D1, he, h => by
    rw [List.append_nil] at he
    subst he
    refine ⟨hf, fun w eq hw hat => ?_⟩
    unfold Rc.rencBack.loop29
    simp only [br_dec, br_bne, chkL_same, chkR_same]
    rw [if_neg (by simp)]
    exact ⟨_, _, _, _, rfl⟩
  | nn + 1, a :: D2, D1, he, h => by
    have he' : (D1 ++ [a]) ++ D2 = D := by simpa using he
    obtain ⟨i1, i2⟩ := rback_read (l0 := l0) (bytes := bytes) hb hl hN hDl hm hv ht hf nn D2 (D1 ++ [a]) he' (by simpa using h)
    have hmem : ∀ x ∈ D1 ++ [a], x ∈ D := fun x hx => by rw [← he']; exact List.mem_append_left _ hx
    have hD1l : D1.length + 1 ≤ 100 := by
      have := congrArg List.length he
      simp at this
      omega
    obtain ⟨h1, f2, f3, f4, f5, f6⟩ := wrs_facts E.new_ok (D := D1) (fun x hx => hm x (hmem x (by simp [hx]))) (fun x hx => hv x (hmem x (by simp [hx])))
    obtain ⟨g1, g2, g3, g4, g5, g6⟩ := wrs_facts E.new_ok (D := D1 ++ [a]) (fun x hx => hm x (hmem x hx)) (fun x hx => hv x (hmem x hx))
    have htD : (wrs (D1 ++ [a]) E.new).tell ≤ (wrs D E.new).tell := by
      obtain ⟨_, _, _, _, _, q⟩ := wrs_facts g1 (D := D2) (fun x hx => hm x (by rw [← he']; exact List.mem_append_right _ hx)) (fun x hx => hv x (by rw [← he']; exact List.mem_append_right _ hx))
      have e1 : wrs D2 (wrs (D1 ++ [a]) E.new) = wrs D E.new := by rw [← he']; simp [wrs]
      rwa [e1] at q
    have hk1 : E.new.k = 0 := rfl
    have hr1 : E.new.r = 0 := rfl
    rw [List.length_append, List.length_singleton] at g3 g5
    have low : (wrs D1 E.new).Low := ⟨by omega, by omega⟩
    have low2 : (wrs (D1 ++ [a]) E.new).Low := ⟨by omega, by omega⟩
    rw [wrs_snoc] at i1 i2 g1 htD low2
    have hD1 : D1.length < D.length := by rw [← he]; simp
    have hga : D[D1.length]? = some a := by rw [← he]; simp
    obtain ⟨w0, hw0, hat0⟩ := W.some_at b (wrs D1 E.new).r
    refine ⟨(wr_back hb hl hN h1 low (hm a (hmem a (by simp))) (hv a (hmem a (by simp))) i1 hw0 (N := N) hat0 0).1, fun w eq hw hat => ?_⟩
    obtain ⟨k0, w', eq', hw', hat', hr⟩ := wr_back hb hl hN h1 low (hm a (hmem a (by simp))) (hv a (hmem a (by simp))) i1 hw hat eq
    have hrow : (D.map rowA).getD D1.length [] = rowA a := by simp [List.getD_eq_getElem?_getD, hga]
    have hval : (D.map Wval).getD D1.length 0 = Wval a := by simp [List.getD_eq_getElem?_getD, hga]
    have hc2 := count_range low2
    have hrd := E.rd_ok hb g1 i1.i
    unfold Rc.rencBack.loop29
    simp only [br_dec, br_bne, chkL_same, chkR_same]
    rw [if_pos (by simp; omega), chk_pos (by simp; omega), chk_pos (by simp; omega), Int.toNat_natCast, hrow, hval]
    simp only [rowA, List.headD_cons, List.tail_cons]
    rw [hr, obind_of]
    simp only [Bool.not_true, br_false]
    have hq : ((wrs D1 E.new).wr a |>.rd b).tell ((wrs D1 E.new).wr a).count = ((wrs D1 E.new).wr a).tell := rfl
    rw [rbad_F hrd hc2.1 (by omega) (by omega) (by omega), obind_of, hq, show decide (((wrs D1 E.new).wr a).tell > 8 * (b.length : Int)) = false by simp; omega]
    simp only [Bool.or_false, br_false]
    rw [i64 (x := (D1.length : Int) + 1) (by omega) (by omega)]
    have := i2 w' eq' hw' hat'
    rw [List.length_append, List.length_singleton, show ((D1.length + 1 : Nat) : Int) = (D1.length : Int) + 1 by omega] at this
    exact this

theorem rencBack_F (hN : 30000 ≤ N) (l : List Rc.Act4) (bytes : Int) (hb : -9223372036854775808 ≤ bytes ∧ bytes < 9223372036854775808) (hv : ∀ a ∈ l, a.v < 9223372036854775808) (ht : ∀ a ∈ l, a.t.length ≤ 17592186043904) (hn : ∀ a ∈ l, -9223372036854775808 ≤ a.n ∧ a.n < 9223372036854775808) : Rc.rencBack.F N l bytes = some true := by
  unfold Rc.rencBack.F
  rw [awake4_F (by omega), obind_of]
  simp only [br_not, if_true, br_dec, br_beq, br_bne]
  by_cases k1 : l.length > 100
  · rw [if_pos (by omega)]
  by_cases k2 : bytes < 0
  · rw [if_neg (by omega), if_pos k2]
  by_cases k3 : bytes > 1275
  · rw [if_neg (by omega), if_neg k2, if_pos k3]
  rw [if_neg (by omega), if_neg k2, if_neg k3, enew_F, obind_of]
  simp only
  obtain ⟨D, hD, hDl, hw⟩ := rback_write (N := N) (l := l) (bytes := bytes) hN (by omega) ht hv hn N 0 [] ⟨fun a ha => by simp at ha, fun a ha => by simp at ha⟩ (by simp) (by omega) (by omega)
  have e0 : wrs [] E.new = E.new := rfl
  rw [e0, show ((0 : Nat) : Int) = 0 from rfl, List.map_nil, List.map_nil] at hw
  rw [hw, osum_inl]
  simp only
  have hvD : ∀ a ∈ D, a.v < 9223372036854775808 := fun a ha => hv a (hD.i a ha)
  obtain ⟨h, f2, f3, f4, f5, f6⟩ := wrs_facts E.new_ok hD.m hvD
  have hk1 : E.new.k = 0 := rfl
  have hr1 : E.new.r = 0 := rfl
  have low : (wrs D E.new).Low := ⟨by omega, by omega⟩
  rw [edone_F h (low.lim hN) (by omega), obind_of, if_neg (show ¬ (bytes < 0 ∨ bytes > 1275) by omega), etell_F h (low.lim hN), obind_of, i64 (x := 8 * bytes) (by omega) (by omega)]
  by_cases c : (wrs D E.new).tell > 8 * bytes
  · rw [if_pos c, if_pos c]
    simp
  · rw [if_neg c, if_neg c]
    obtain ⟨n, rfl⟩ := Int.eq_ofNat_of_zero_le (show 0 ≤ bytes by omega)
    have hfit := (E.out_fit h (n := n) (by omega)).2.2.2.2
    simp only [if_true, Int.toNat_natCast, tb_len]
    have hb := tb_bytes n ((wrs D E.new).out n)
    have hlen := tb_len n ((wrs D E.new).out n)
    generalize tb n ((wrs D E.new).out n) = b at *
    rw [rnew_F hb (by omega) (by omega), obind_of]
    obtain ⟨_, hr⟩ := rback_read (N := N) (l0 := l) (bytes := (n : Int)) hb (by omega) hN (D := D) (by omega) hD.m hvD (by omega) hfit N D [] (by simp) (by omega)
    obtain ⟨bk, wn, wt, eq', hr⟩ := hr W.new 0 W.new_ok ⟨rfl, rfl⟩
    have e1 : fr b W.new.k = 0 := rfl
    have e2 : W.new.win = 0 := rfl
    have e3 : (W.new.wai : Int) = 0 := rfl
    have hcn : E.new.count = cnew b := by rw [cnew_eq, (Q.new_rng b).2]; rfl
    rw [e0, e1, e2, e3, E.new_rd hb, hcn, List.length_nil, show ((0 : Nat) : Int) = 0 from rfl] at hr
    simp only
    rw [hr, osum_inl]
    simp only
    have hrd := E.rd_ok hb h hfit.i
    have hc2 := count_range low
    rw [rtell_F hrd hc2.1 (by omega) (by omega), obind_of, obind_of]
    have hq : ((wrs D E.new).rd b).tell (wrs D E.new).count = (wrs D E.new).tell := rfl
    rw [hq]
    simp
end
end Go.Pl
