/-
  Chapter 3's statements in plain words: the reader reads what the reference reads.
  Conditions: none.
-/
import Derived.Test.YtihbpcggomabcaaPlLaw3d
set_option linter.unusedSimpArgs false
set_option linter.unusedVariables false
namespace Go.Pl
open Go.Eng Go.Proofs

theorem reads_loop {N : Nat} {b : List Int} {l : List Rc.Act3} (hb : Bytes b) (hl : b.length ≤ 2000) (hN : 10000 ≤ N) (hll : l.length ≤ 100) (ht : ∀ a ∈ l, a.t.length ≤ 17592186043904) :
    ∀ (nn i : Nat) (q : Q) (w : W) (count e : Int) (s bad : Bool), q.Ok → w.Ok → 0 ≤ count → count + 80 * ((l.length : Int) - i) < 1000000 → i ≤ l.length → l.length - i < nn →
      ∃ r, Rc.rcReads.loop8 N b l nn b b (i : Int) q.rng q.val q.last (fr b q.m) (fr b w.k) w.win (w.wai : Int) count q.rng q.val q.last (fr b q.m) (fr b w.k) w.win (w.wai : Int) count e s bad bad = some (Sum.inl r)
  | 0, i, q, w, count, e, s, bad, _, _, _, _, _, h => by omega
  | nn + 1, i, q, w, count, e, s, bad, hq, hw, hc0, hc1, hi, h => by
    unfold Rc.rcReads.loop8
    simp only [br_dec, chkI_same, chkL_same, br_beq]
    by_cases hlt : i < l.length
    · rw [if_pos (by omega), chk_pos (by omega), i64 (x := (i : Int) + 1) (by omega) (by omega)]
      have hnext : ((i + 1 : Nat) : Int) = (i : Int) + 1 := by omega
      have htx : (l.getD (i : Int).toNat Rc.Act3.nil).t.length ≤ 17592186043904 := by
        rw [show (i : Int).toNat = i from rfl]
        refine ht _ ?_
        simp [List.getD_eq_getElem?_getD, hlt]
      generalize hx : l.getD (i : Int).toNat Rc.Act3.nil = x
      rw [hx] at htx
      have again := fun q w count e bad h1 h2 h3 h4 => reads_loop (N := N) (b := b) (l := l) hb hl hN hll ht nn (i + 1) q w count e s bad h1 h2 h3 h4 (by omega) (by omega)
      rw [hnext] at again
      have sym : ∀ t : List Int, ∃ (v c2 e2 : Int) (q2 : Q), q2.Ok ∧ 0 ≤ c2 ∧ c2 ≤ count + 40 ∧ Rc.symbol.F N q.rng q.val q.last (fr b q.m) (fr b w.k) w.win (w.wai : Int) count bad t b = some (v, q2.rng, q2.val, q2.last, fr b q2.m, c2) ∧
          Rc.rsymbol.F N q.rng q.val q.last (fr b q.m) (fr b w.k) w.win (w.wai : Int) count e bad t b = some (v, q2.rng, q2.val, q2.last, fr b q2.m, c2, e2) := by
        intro t
        have s1 := symbol_F (N := N) (back := fr b w.k) (window := w.win) (waiting := (w.wai : Int)) (bad := bad) hb (by omega) hq t hc0 (by omega) (by omega)
        have s2 := rsymbol_F (N := N) (back := fr b w.k) (wait := w.win) (waiting := (w.wai : Int)) (eq := e) (bad := bad) hb (by omega) hq t hc0 (by omega) (by omega)
        by_cases g : GoodT t
        · obtain ⟨e2, h2⟩ := s2.1 g
          have hcr := ct_range (b := b) (q.sy_m b t) count
          exact ⟨_, _, e2, _, Q.sy_ok hb hq g, by omega, by omega, s1.1 g, h2⟩
        · exact ⟨_, _, _, q, hq, hc0, by omega, s1.2 g, s2.2 g⟩
      by_cases h0 : x.op = 0
      · rw [if_pos h0, chk_pos (by simp only [List.length_nil]; omega), show ([] : List Int) ++ x.t = x.t from rfl]
        obtain ⟨v, c2, e2, q2, hq2, k0, k1, s1, s2⟩ := sym x.t
        rw [s1, obind_of, s2, obind_of]
        simp only [if_true, br_not, br_beq, beq_self_eq_true]
        rw [tell_F hq2 (by omega) (by omega), obind_of, rtell_F hq2 (by omega) (by omega) (by omega), obind_of, br_bne, if_pos rfl, bad_F hq2 (by omega) (by omega) (by omega), obind_of, rbad_F hq2 (by omega) (by omega) (by omega) (by omega), obind_of]
        simp only [if_true, beq_self_eq_true]
        exact again q2 w c2 e2 bad hq2 hw (by omega) (by omega)
      rw [if_neg h0]
      by_cases h1 : x.op = 1
      · rw [if_pos h1, flag_F hb (by omega) hq x.n hc0 (by omega) (by omega), obind_of, rflag_F hb (by omega) hq x.n hc0 (by omega) (by omega), obind_of]
        by_cases g : 1 ≤ x.n ∧ x.n ≤ 15
        · have hq2 := Q.fl_ok hb hq g.1 g.2
          have hcr := ct_range (b := b) (q.fl_m b x.n) count
          rw [if_pos g]
          simp only [if_true, br_not, beq_self_eq_true]
          rw [tell_F hq2 (by omega) (by omega), obind_of, rtell_F hq2 (by omega) (by omega) (by omega), obind_of, br_bne, if_pos rfl, bad_F hq2 (by omega) (by omega) (by omega), obind_of, rbad_F hq2 (by omega) (by omega) (by omega) (by omega), obind_of]
          simp only [if_true, beq_self_eq_true]
          exact again _ w _ e bad hq2 hw (by omega) (by omega)
        · rw [if_neg g]
          simp only [if_true, br_not, beq_self_eq_true]
          rw [tell_F hq (by omega) (by omega), obind_of, rtell_F hq (by omega) (by omega) (by omega), obind_of, br_bne, if_pos rfl, bad_F hq (by omega) (by omega) (by omega), obind_of, rbad_F hq (by omega) (by omega) (by omega) (by omega), obind_of]
          simp only [if_true, beq_self_eq_true]
          exact again q w _ e bad hq hw (by omega) (by omega)
      rw [if_neg h1]
      by_cases h2 : x.op = 2
      · rw [if_pos h2, bits_F hb (by omega) hw x.n (by omega) (by omega) (by omega), obind_of, rbits_F hb (by omega) hw x.n (by omega) (by omega) (by omega), obind_of]
        by_cases g : 0 ≤ x.n ∧ x.n ≤ 24
        · rw [if_pos g]
          simp only [if_true, br_not, br_beq]
          rw [tell_F hq (by omega) (by omega), obind_of, rtell_F hq (by omega) (by omega) (by omega), obind_of, br_bne, if_pos rfl, bad_F hq (by omega) (by omega) (by omega), obind_of, rbad_F hq (by omega) (by omega) (by omega) (by omega), obind_of]
          simp only [if_true, beq_self_eq_true]
          exact again q _ _ e bad hq (W.next_ok hb hw (by omega)) (by omega) (by omega)
        · rw [if_neg g]
          simp only [if_true, br_not, br_beq]
          rw [tell_F hq (by omega) (by omega), obind_of, rtell_F hq (by omega) (by omega) (by omega), obind_of, br_bne, if_pos rfl, bad_F hq (by omega) (by omega) (by omega), obind_of, rbad_F hq (by omega) (by omega) (by omega) (by omega), obind_of]
          simp only [if_true, beq_self_eq_true]
          exact again q w _ e bad hq hw (by omega) (by omega)
      rw [if_neg h2]
      by_cases h3 : x.op = 3
      · rw [if_pos h3]
        have un : ∃ (v c2 e2 : Int) (q2 : Q) (w2 : W) (b2 : Bool), q2.Ok ∧ w2.Ok ∧ 0 ≤ c2 ∧ c2 ≤ count + 64 ∧ Rc.uint.F N x.n q.rng q.val q.last (fr b q.m) (fr b w.k) w.win (w.wai : Int) count bad b = some (v, q2.rng, q2.val, q2.last, fr b q2.m, fr b w2.k, w2.win, (w2.wai : Int), c2, b2) ∧
            Rc.ruint.F N x.n q.rng q.val q.last (fr b q.m) (fr b w.k) w.win (w.wai : Int) count e bad b = some (v, q2.rng, q2.val, q2.last, fr b q2.m, fr b w2.k, w2.win, (w2.wai : Int), c2, e2, b2) := by
          by_cases ho : x.n ≤ 1 ∨ x.n > 4294967295
          · exact ⟨_, _, _, q, w, _, hq, hw, hc0, by omega, uint_out ho, ruint_out ho⟩
          · have hq2 := Q.un_ok hb hq (ft := x.n) (by omega) (by omega)
            have hm := Q.un_m b q x.n
            have hcr := ct_range (b := b) hm count
            by_cases hsm : x.n ≤ 256
            · obtain ⟨e2, hr⟩ := ruint_small (N := N) (back := fr b w.k) (wait := w.win) (waiting := (w.wai : Int)) (eq := e) (bad := bad) hb (by omega) hq (by omega) hsm hc0 (by omega) (by omega)
              exact ⟨_, _, e2, _, w, _, hq2, hw, by omega, by omega, uint_small hb (by omega) hq (by omega) hsm hc0 (by omega) (by omega), hr⟩
            · obtain ⟨b0, b1, _⟩ := ub_range (ft := x.n) (by omega) (by omega)
              obtain ⟨e2, hr⟩ := ruint_great (N := N) (eq := e) (bad := bad) hb (by omega) hq hw (ft := x.n) (by omega) (by omega) hc0 (by omega) (by omega)
              exact ⟨_, _, e2, _, _, _, hq2, W.next_ok hb hw b1, by omega, by omega, uint_great hb (by omega) hq hw (by omega) (by omega) hc0 (by omega) (by omega), hr⟩
        obtain ⟨v, c2, e2, q2, w2, b2, hq2, hw2, k0, k1, s1, s2⟩ := un
        rw [s1, obind_of, s2, obind_of]
        simp only [if_true, br_not, br_beq, beq_self_eq_true]
        rw [tell_F hq2 (by omega) (by omega), obind_of, rtell_F hq2 (by omega) (by omega) (by omega), obind_of, br_bne, if_pos rfl, bad_F hq2 (by omega) (by omega) (by omega), obind_of, rbad_F hq2 (by omega) (by omega) (by omega) (by omega), obind_of]
        simp only [if_true, beq_self_eq_true]
        exact again q2 w2 c2 e2 b2 hq2 hw2 (by omega) (by omega)
      rw [if_neg h3]
      by_cases h4 : x.op = 4
      · rw [if_pos h4]
        have la : ∃ (v c2 e2 : Int) (q2 : Q), q2.Ok ∧ 0 ≤ c2 ∧ c2 ≤ count + 40 ∧ Rc.laplace.F N x.n x.m q.rng q.val q.last (fr b q.m) (fr b w.k) w.win (w.wai : Int) count bad b = some (v, q2.rng, q2.val, q2.last, fr b q2.m, c2) ∧
            Rc.rlaplace.F N x.n x.m q.rng q.val q.last (fr b q.m) (fr b w.k) w.win (w.wai : Int) count e bad b = some (v, q2.rng, q2.val, q2.last, fr b q2.m, c2, e2) := by
          by_cases ho : x.n < 256 ∨ x.n > 28000 ∨ x.m < 0 ∨ x.m > 16000
          · exact ⟨_, _, _, q, hq, hc0, by omega, laplace_out ho, rlaplace_out ho⟩
          · have hcr := ct_range (b := b) (Q.la_m b q x.n x.m) count
            obtain ⟨e2, hr⟩ := rlaplace_F (N := N) (back := fr b w.k) (wait := w.win) (waiting := (w.wai : Int)) (eq := e) (bad := bad) hb (by omega) hq (fs := x.n) (decay := x.m) (by omega) (by omega) (by omega) (by omega) hc0 (by omega) hN
            exact ⟨_, _, e2, _, Q.la_ok hb hq (by omega) (by omega) (by omega) (by omega), by omega, by omega, laplace_F hb (by omega) hq (by omega) (by omega) (by omega) (by omega) hc0 (by omega) hN, hr⟩
        obtain ⟨v, c2, e2, q2, hq2, k0, k1, s1, s2⟩ := la
        rw [s1, obind_of, s2, obind_of]
        simp only [if_true, br_not, br_beq, beq_self_eq_true]
        rw [tell_F hq2 (by omega) (by omega), obind_of, rtell_F hq2 (by omega) (by omega) (by omega), obind_of, br_bne, if_pos rfl, bad_F hq2 (by omega) (by omega) (by omega), obind_of, rbad_F hq2 (by omega) (by omega) (by omega) (by omega), obind_of]
        simp only [if_true, beq_self_eq_true]
        exact again q2 w c2 e2 bad hq2 hw (by omega) (by omega)
      · rw [if_neg h4, icdf_F, obind_of]
        obtain ⟨v, c2, e2, q2, hq2, k0, k1, s1, s2⟩ := sym (icdfT x.n)
        rw [s1, obind_of, s2, obind_of]
        simp only [if_true, br_not, br_beq, beq_self_eq_true]
        rw [tell_F hq2 (by omega) (by omega), obind_of, rtell_F hq2 (by omega) (by omega) (by omega), obind_of, br_bne, if_pos rfl, bad_F hq2 (by omega) (by omega) (by omega), obind_of, rbad_F hq2 (by omega) (by omega) (by omega) (by omega), obind_of]
        simp only [if_true, beq_self_eq_true]
        exact again q2 w c2 e2 bad hq2 hw (by omega) (by omega)
    · rw [if_neg (by omega)]
      exact ⟨_, rfl⟩

theorem rcReads_pure (b : List Int) (l : List Rc.Act3) (hw : WfL .u8 b) (ht : ∀ a ∈ l, a.t.length ≤ 17592186043904) : ∃ N, Rc.rcReads.F N b l = some true := by
  refine ⟨10000, ?_⟩
  have hb := bytes_of hw
  unfold Rc.rcReads.F
  rw [awake_F (by omega), obind_of]
  simp only [br_dec, br_not, if_true]
  by_cases h1 : (b.length : Int) > 2000
  · rw [if_pos h1]
  rw [if_neg h1]
  by_cases h2 : (l.length : Int) > 100
  · rw [if_pos h2]
  rw [if_neg h2, chk_pos (by simp only [List.length_nil]; omega), show ([] : List Int) ++ b = b from rfl, new_F hb (by omega) (by omega), obind_of, rnew_F hb (by omega) (by omega), obind_of]
  simp only
  have hc := cnew_range b
  obtain ⟨r, hr⟩ := reads_loop (N := 10000) (b := b) (l := l) hb (by omega) (by omega) (by omega) ht 10000 0 (Q.new b) W.new (cnew b) 0 false false (Q.new_ok hb) W.new_ok hc.1 (by omega) (by omega) (by omega)
  simp only [W.new] at hr
  rw [show ((0 : Nat) : Int) = 0 from rfl, show fr b 0 = 0 by simp [fr]] at hr
  rw [hr, osum_inl]
end Go.Pl
