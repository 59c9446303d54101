/-
  Layer 17: what is written is read; any bytes are read by both in one way.
  Conditions: none.
-/
import Derived.Test.YtgimkkepagcpkaaPlPvq4
import Derived.Test.YtgimkkepagcpkaaPlRen5
import Derived.Test.YtgimkkepagcpkaaPlG5
import Derived.Test.YtgimkkepagcpkaaPlG7
set_option linter.unusedSimpArgs false
set_option linter.unusedVariables false
namespace Go.Pl
open Go.Eng Go.Proofs
set_option maxRecDepth 100000
theorem un_same17 {e : E} {v ft : Int} : (ft ≤ 256 → (e.un v ft).r = e.r ∧ (e.un v ft).raw = e.raw) ∧ e.k ≤ (e.un v ft).k ∧ (e.un v ft).k ≤ e.k + 4 ∧ e.r ≤ (e.un v ft).r ∧ (256 < ft → (e.un v ft).r = e.r + ub ft) := by
  unfold E.un
  split
  · exact ⟨fun _ => ⟨rfl, rfl⟩, by omega, by omega, by omega, fun h => by omega⟩
  · split
    · have := E.tk_same e v (v + 1) ft
      exact ⟨fun _ => ⟨this.1, this.2.1⟩, by omega, by omega, by omega, fun h => by omega⟩
    · have := E.tk_same e (v / 2 ^ ub ft) (v / 2 ^ ub ft + 1) (uf ft)
      simp only [E.bt]
      exact ⟨fun h => by omega, by omega, by omega, by omega, fun h => by omega⟩
section
variable {N : Nat}
theorem uint_both {b : List Int} (hb : Bytes b) (hl : b.length < 1099511627776) {q : Q} (h : q.Ok) {w : W} (hw : w.Ok) {ft : Int} (f0 : 1 ≤ ft) (f1 : ft ≤ 4294967295) {count : Int} (hc0 : 0 ≤ count) (hc1 : count < 1099511000000) (bad : Bool) (hN : 300 ≤ N) :
    ∃ (v : Int) (q' : Q) (bk wn wt : Int) (c' : Int) (bad' : Bool), q'.Ok ∧ 0 ≤ v ∧ v < ft ∧ 0 ≤ c' ∧ c' < 1099511627776 ∧
      Rc.uint.F N ft q.rng q.val q.last (fr b q.m) (fr b w.k) w.win (w.wai : Int) count bad b = some (v, q'.rng, q'.val, q'.last, fr b q'.m, bk, wn, wt, c', bad') ∧
      ∀ eq, ∃ eq', Rc.ruint.F N ft q.rng q.val q.last (fr b q.m) (fr b w.k) w.win (w.wai : Int) count eq bad b = some (v, q'.rng, q'.val, q'.last, fr b q'.m, bk, wn, wt, c', eq', bad') := by
  by_cases c1 : ft ≤ 1
  · exact ⟨0, q, _, _, _, count, bad, h, by omega, by omega, hc0, by omega, uint_out (Or.inl c1), fun eq => ⟨eq, ruint_out (Or.inl c1)⟩⟩
  have hm := ct_range (b := b) (Q.un_m b q ft) count
  have hok := Q.un_ok hb h (ft := ft) (by omega) f1
  by_cases c2 : ft ≤ 256
  · obtain ⟨e0, e1⟩ := Q.ch_range h (ft := ft) (by omega) (by omega)
    exact ⟨_, _, _, _, _, _, _, hok, e0, e1, by omega, by omega, uint_small hb hl h (by omega) c2 hc0 (by omega) hN, fun eq => ruint_small hb hl h (by omega) c2 hc0 (by omega) hN⟩
  · obtain ⟨b0, b1, _⟩ := ub_range (ft := ft) (by omega) f1
    obtain ⟨u0, u1, _⟩ := uv_range (b := b) h w (ft := ft) (by omega) f1
    refine ⟨_, _, _, _, _, _, _, hok, ?_, ?_, ?_, ?_, uint_great hb hl h hw (by omega) f1 hc0 (by omega) hN, fun eq => ruint_great hb hl h hw (by omega) f1 hc0 (by omega) hN⟩
    · split <;> omega
    · split <;> omega
    · omega
    · omega
theorem un_read {b : List Int} (hb : Bytes b) (hl : b.length < 1099511627776) {v ft : Int} (v0 : 0 ≤ v) (v1 : v < ft) (f1 : ft ≤ 4294967295) (hf : (E.new.un v ft).Fit b) (hN : 300 ≤ N) :
    ∃ t, Rc.ruint.F N ft (Q.new b).rng (Q.new b).val (Q.new b).last (fr b (Q.new b).m) 0 0 0 (cnew b) 0 false b = some (v, t) := by
  have hc := cnew_range b
  have hq := Q.new_ok hb
  have e1 : fr b W.new.k = 0 := rfl
  have e2 : W.new.win = 0 := rfl
  have e3 : (W.new.wai : Int) = 0 := rfl
  by_cases c1 : ft ≤ 1
  · obtain rfl : v = 0 := by omega
    exact ⟨_, ruint_out (Or.inl c1)⟩
  by_cases c2 : ft ≤ 256
  · obtain ⟨_, g, _⟩ := E.us_back hb E.new_ok v0 v1 (by omega) c2 hf
    rw [E.new_rd hb] at g
    obtain ⟨eq', h⟩ := ruint_small (N := N) (back := 0) (wait := 0) (waiting := 0) (count := cnew b) (eq := 0) (bad := false) hb hl hq (ft := ft) (by omega) c2 (by omega) (by omega) hN
    rw [g] at h
    exact ⟨_, h⟩
  · have hat : W.new.At b E.new.r := ⟨rfl, rfl⟩
    obtain ⟨_, g, _⟩ := E.ug_back hb E.new_ok v0 v1 (by omega) f1 hf hat
    rw [E.new_rd hb] at g
    obtain ⟨eq', h⟩ := ruint_great (N := N) (count := cnew b) (eq := 0) (bad := false) hb hl hq W.new_ok (ft := ft) (by omega) f1 (by omega) (by omega) hN
    rw [g, if_neg (by omega), e1, e2, e3] at h
    exact ⟨_, h⟩
theorem new_tell {b : List Int} : (Q.new b).tell (cnew b) = 1 := by
  have e32 : bl 2147483648 = 32 := by decide +kernel
  unfold Q.tell
  rw [cnew_eq, (Q.new_rng b).1, (Q.new_rng b).2, e32]
  rfl
theorem back_tail (b : List Int) (n k : Int) (hb : Bytes b) (hlb : b.length ≤ 200) (hN : 30000 ≤ N) : (obind (Rc.new.F (N) (b)) fun r5 =>
      (obind (Rc.pread.F (N) (n) (k) (r5.fst) (r5.snd.fst) (r5.snd.snd.fst) (r5.snd.snd.snd.fst) (r5.snd.snd.snd.snd.fst) (r5.snd.snd.snd.snd.snd.fst) (r5.snd.snd.snd.snd.snd.snd.fst) (r5.snd.snd.snd.snd.snd.snd.snd.fst) (r5.snd.snd.snd.snd.snd.snd.snd.snd.fst) (r5.snd.snd.snd.snd.snd.snd.snd.snd.snd)) fun r6 =>
      (br (decide (n < (1 : Int)))
      (br (r6.fst == (1 : Int))
      (br ((r6.snd.snd.snd.snd.snd.snd.snd.snd.snd.snd.length : Int) == (0 : Int))
      (obind (Rc.tell.F (N) (r6.snd.fst) (r6.snd.snd.fst) (r6.snd.snd.snd.fst) (r6.snd.snd.snd.snd.fst) (r6.snd.snd.snd.snd.snd.fst) (r6.snd.snd.snd.snd.snd.snd.fst) (r6.snd.snd.snd.snd.snd.snd.snd.fst) (r6.snd.snd.snd.snd.snd.snd.snd.snd.fst) (r6.snd.snd.snd.snd.snd.snd.snd.snd.snd.fst) (r5.snd.snd.snd.snd.snd.snd.snd.snd.snd)) fun r7 =>
      (some (r7 == (1 : Int))))
      (some (false)))
      (some (false)))
      (br (decide (n > (16 : Int)))
      (br (r6.fst == (1 : Int))
      (br ((r6.snd.snd.snd.snd.snd.snd.snd.snd.snd.snd.length : Int) == (0 : Int))
      (obind (Rc.tell.F (N) (r6.snd.fst) (r6.snd.snd.fst) (r6.snd.snd.snd.fst) (r6.snd.snd.snd.snd.fst) (r6.snd.snd.snd.snd.snd.fst) (r6.snd.snd.snd.snd.snd.snd.fst) (r6.snd.snd.snd.snd.snd.snd.snd.fst) (r6.snd.snd.snd.snd.snd.snd.snd.snd.fst) (r6.snd.snd.snd.snd.snd.snd.snd.snd.snd.fst) (r5.snd.snd.snd.snd.snd.snd.snd.snd.snd)) fun r8 =>
      (some (r8 == (1 : Int))))
      (some (false)))
      (some (false)))
      (br (decide (k < (0 : Int)))
      (br (r6.fst == (1 : Int))
      (br ((r6.snd.snd.snd.snd.snd.snd.snd.snd.snd.snd.length : Int) == (0 : Int))
      (obind (Rc.tell.F (N) (r6.snd.fst) (r6.snd.snd.fst) (r6.snd.snd.snd.fst) (r6.snd.snd.snd.snd.fst) (r6.snd.snd.snd.snd.snd.fst) (r6.snd.snd.snd.snd.snd.snd.fst) (r6.snd.snd.snd.snd.snd.snd.snd.fst) (r6.snd.snd.snd.snd.snd.snd.snd.snd.fst) (r6.snd.snd.snd.snd.snd.snd.snd.snd.snd.fst) (r5.snd.snd.snd.snd.snd.snd.snd.snd.snd)) fun r9 =>
      (some (r9 == (1 : Int))))
      (some (false)))
      (some (false)))
      (obind (Rc.qmost.F (N) (n)) fun r10 =>
      (br (decide (k > r10))
      (br (r6.fst == (1 : Int))
      (br ((r6.snd.snd.snd.snd.snd.snd.snd.snd.snd.snd.length : Int) == (0 : Int))
      (obind (Rc.tell.F (N) (r6.snd.fst) (r6.snd.snd.fst) (r6.snd.snd.snd.fst) (r6.snd.snd.snd.snd.fst) (r6.snd.snd.snd.snd.snd.fst) (r6.snd.snd.snd.snd.snd.snd.fst) (r6.snd.snd.snd.snd.snd.snd.snd.fst) (r6.snd.snd.snd.snd.snd.snd.snd.snd.fst) (r6.snd.snd.snd.snd.snd.snd.snd.snd.snd.fst) (r5.snd.snd.snd.snd.snd.snd.snd.snd.snd)) fun r11 =>
      (some (r11 == (1 : Int))))
      (some (false)))
      (some (false)))
      (obind (Rc.rnew.F (N) (b)) fun r12 =>
      (br (r6.fst == (0 : Int))
      (obind (Rc.qcount.F (N) (n) (k)) fun r13 =>
      (obind (Rc.ruint.F (N) (r13) (r12.fst) (r12.snd.fst) (r12.snd.snd.fst) (r12.snd.snd.snd.fst) (r12.snd.snd.snd.snd.fst) (r12.snd.snd.snd.snd.snd.fst) (r12.snd.snd.snd.snd.snd.snd.fst) (r12.snd.snd.snd.snd.snd.snd.snd.fst) (r12.snd.snd.snd.snd.snd.snd.snd.snd.fst) (r12.snd.snd.snd.snd.snd.snd.snd.snd.snd.fst) (r12.snd.snd.snd.snd.snd.snd.snd.snd.snd.snd)) fun r14 =>
      (obind (Rc.qvector.F (N) (n) (k) (r14.fst)) fun r15 =>
      (obind (Rc.same17.F (N) (r6.snd.snd.snd.snd.snd.snd.snd.snd.snd.snd) (r15)) fun r16 =>
      (br (r16)
      (obind (Rc.tell.F (N) (r6.snd.fst) (r6.snd.snd.fst) (r6.snd.snd.snd.fst) (r6.snd.snd.snd.snd.fst) (r6.snd.snd.snd.snd.snd.fst) (r6.snd.snd.snd.snd.snd.snd.fst) (r6.snd.snd.snd.snd.snd.snd.snd.fst) (r6.snd.snd.snd.snd.snd.snd.snd.snd.fst) (r6.snd.snd.snd.snd.snd.snd.snd.snd.snd.fst) (r5.snd.snd.snd.snd.snd.snd.snd.snd.snd)) fun r17 =>
      (obind (Rc.rtell.F (N) (r14.snd.fst) (r14.snd.snd.fst) (r14.snd.snd.snd.fst) (r14.snd.snd.snd.snd.fst) (r14.snd.snd.snd.snd.snd.fst) (r14.snd.snd.snd.snd.snd.snd.fst) (r14.snd.snd.snd.snd.snd.snd.snd.fst) (r14.snd.snd.snd.snd.snd.snd.snd.snd.fst) (r14.snd.snd.snd.snd.snd.snd.snd.snd.snd.fst) (r14.snd.snd.snd.snd.snd.snd.snd.snd.snd.snd) (r12.snd.snd.snd.snd.snd.snd.snd.snd.snd.snd)) fun r18 =>
      (some (r17 == r18))))
      (some (false)))))))
      (some (false))))))))))) = some true := by
  simp only [br_dec, br_beq]
  have hc := cnew_range b
  have hq := Q.new_ok hb
  have e0 : (([] : List Int).length : Int) = 0 := rfl
  rw [new_F hb (by omega) (by omega), obind_of]
  simp only
  unfold Rc.pread.F
  rw [pmay_F, obind_of]
  simp only [br_not_dec, br_dec, chkL_same]
  by_cases d1 : n < 1
  · rw [if_neg (show ¬ (1 ≤ n ∧ n ≤ 16) by omega), obind_of, if_pos d1]
    simp only [e0, if_true]
    rw [tell_F hq (by omega) (by omega), obind_of, new_tell]; rfl
  by_cases d2 : n > 16
  · rw [if_neg (show ¬ (1 ≤ n ∧ n ≤ 16) by omega), obind_of, if_neg d1, if_pos d2]
    simp only [e0, if_true]
    rw [tell_F hq (by omega) (by omega), obind_of, new_tell]; rfl
  rw [if_pos (show 1 ≤ n ∧ n ≤ 16 by omega)]
  by_cases d3 : k < 0
  · rw [if_pos d3, obind_of, if_neg d1, if_neg d2, if_pos d3]
    simp only [e0, if_true]
    rw [tell_F hq (by omega) (by omega), obind_of, new_tell]; rfl
  rw [if_neg d3, pmost_F _ (by omega), obind_of]
  by_cases d4 : k > mostT n
  · rw [if_pos d4, obind_of, if_neg d1, if_neg d2, if_neg d3, qmost_F, obind_of, if_pos d4]
    simp only [e0, if_true]
    rw [tell_F hq (by omega) (by omega), obind_of, new_tell]; rfl
  have hm := mostT_range n
  have hu := un_most (n := n.toNat) (k := k.toNat) (by omega) (by omega) (by rw [show ((n.toNat : Nat) : Int) = n by omega]; omega)
  have hA : cntA n k = cnt n.toNat k.toNat := by unfold cntA; rw [if_pos (by omega)]
  have hpos : 1 ≤ cntA n k := by
    rw [hA]
    have := cnt_pos (n.toNat - 1) k.toNat
    rwa [show n.toNat - 1 + 1 = n.toNat by omega] at this
  obtain ⟨v, q', bk, wn, wt, c', bad', g1, g2, g3, g4, g5, g6, g7⟩ := uint_both (N := N) hb (by omega) hq W.new_ok (ft := cntA n k) hpos (by omega) (count := cnew b) (by omega) (by omega) false (by omega)
  obtain ⟨eq', g7⟩ := g7 0
  have e1 : fr b W.new.k = 0 := rfl
  have e2 : W.new.win = 0 := rfl
  have e3 : (W.new.wai : Int) = 0 := rfl
  rw [e1, e2, e3] at g6 g7
  have hv : VOk n k v := ⟨by omega, by omega, by omega, by omega, g2, g3⟩
  have hun := hv.un
  obtain ⟨v1, v2, v3⟩ := vec_spec n.toNat k.toNat v g2 (by omega) hun.2.1
  rw [if_neg d4, pcount_F _ _ (by omega), obind_of, g6, obind_of]
  simp only
  rw [pvector_F _ _ _ (by omega), obind_of, if_pos hv, obind_of, if_neg d1, if_neg d2, if_neg d3, qmost_F, obind_of, if_neg d4, rnew_F hb (by omega) (by omega), obind_of, if_pos rfl, qcount_F _ _ (by omega), obind_of]
  simp only
  rw [g7, obind_of]
  simp only
  rw [qvector_F hv (by omega), obind_of, same17_F _ (by omega) (by omega), obind_of]
  simp only [br_true]
  rw [tell_F g1 g4 g5, obind_of, rtell_F g1 g4 g5 (by omega), obind_of]
  simp
theorem pwrite_F (y : List Int) (hN : 30000 ≤ N) : Rc.pwrite.F N E.new.val E.new.rng E.new.r E.new.count y E.new.told E.new.bits =
    some (if 0 ≤ qs y ∧ qs y ≤ mostT y.length then (0, (E.new.un (ix y (sz1 y)) (cnt y.length (sz1 y))).val, (E.new.un (ix y (sz1 y)) (cnt y.length (sz1 y))).rng, ((E.new.un (ix y (sz1 y)) (cnt y.length (sz1 y))).r : Int), (E.new.un (ix y (sz1 y)) (cnt y.length (sz1 y))).count, (E.new.un (ix y (sz1 y)) (cnt y.length (sz1 y))).told, (E.new.un (ix y (sz1 y)) (cnt y.length (sz1 y))).bits) else (1, E.new.val, E.new.rng, (E.new.r : Int), E.new.count, E.new.told, E.new.bits)) := by
  unfold Rc.pwrite.F
  simp only [br_bne]
  rw [pindex_F _ (by omega), obind_of]
  by_cases c : 0 ≤ qs y ∧ qs y ≤ mostT y.length
  · obtain ⟨g1, g2, g3, g4, g5, g6⟩ := qs_ok c.1 c.2
    have hu := un_most (n := y.length) (k := sz1 y) (by omega) (by omega) (by omega)
    obtain ⟨i0, i1, i2⟩ := ix_spec y (sz1 y) rfl hu
    have hA : cntA (y.length : Int) (sz1 y : Int) = cnt y.length (sz1 y) := by
      unfold cntA
      rw [if_pos (by omega), Int.toNat_natCast, Int.toNat_natCast]
    rw [if_pos (show 1 ≤ y.length ∧ y.length ≤ 16 ∧ psumL y ≤ mostT y.length by omega), if_pos c]
    simp only [if_true]
    rw [pcount_F _ _ (by omega), obind_of, euint_F E.new_ok (E.new_low.lim hN) (by decide), g5, hA, if_pos ⟨by omega, by omega, i0, i1⟩, obind_of]
  · rw [if_neg (qs_not (by omega)), if_neg c]
    rfl
theorem pvqBack_pure (y b : List Int) (n k : Int) (hb : Bytes b) : ∃ N, Rc.pvqBack.F N y b n k = some true := by
  refine ⟨30000, ?_⟩
  unfold Rc.pvqBack.F
  rw [awake17_F (by omega), obind_of]
  simp only [br_not, if_true]
  rw [br_dec]
  by_cases k1 : b.length > 200
  · rw [if_pos (by omega)]
  simp only [back_tail b n k hb (show b.length ≤ 200 by omega) (show 30000 ≤ 30000 by omega)]
  simp only [br_dec, br_bne, List.nil_append, List.length_nil, Nat.zero_add]
  by_cases k2 : y.length > 100
  · rw [if_neg (by omega), if_pos (by omega)]
  have hlim : E.new.Lim 30000 := E.new_low.lim (by omega)
  have htell1 : ∀ (raw told : List Int) (val rb : Int), Rc.etell.F 30000 val E.new.rng rb E.new.count told raw = some 1 := fun raw told val rb => by
    rw [etell_F E.new_ok hlim, E.new_tell]
  rw [if_neg (by omega), if_neg (by omega), enew_F, obind_of, chk_pos (by omega)]
  simp only
  rw [pwrite_F _ (by omega), obind_of, qsum_F _ (by omega), obind_of]
  by_cases k3 : qs y < 0
  · rw [if_neg (show ¬ (0 ≤ qs y ∧ qs y ≤ mostT y.length) by omega), if_pos k3]
    simp only [if_true]
    rw [htell1, obind_of, if_pos rfl]
  rw [if_neg k3, qmost_F, obind_of]
  by_cases k4 : qs y > mostT y.length
  · rw [if_neg (show ¬ (0 ≤ qs y ∧ qs y ≤ mostT y.length) by omega), if_pos k4]
    simp only [if_true]
    rw [htell1, obind_of, if_pos rfl]
  obtain ⟨g1, g2, g3, g4, g5, g6⟩ := qs_ok (y := y) (by omega) (by omega)
  have hu := un_most (n := y.length) (k := sz1 y) (by omega) (by omega) (by omega)
  obtain ⟨i0, i1, i2⟩ := ix_spec y (sz1 y) rfl hu
  have hA : cntA (y.length : Int) (sz1 y : Int) = cnt y.length (sz1 y) := by
    unfold cntA
    rw [if_pos (by omega), Int.toNat_natCast, Int.toNat_natCast]
  have hv : VOk (y.length : Int) (sz1 y : Int) (ix y (sz1 y)) := ⟨by omega, by omega, by omega, by omega, i0, by rw [hA]; exact i1⟩
  rw [if_pos (show 0 ≤ qs y ∧ qs y ≤ mostT y.length by omega), if_neg k4]
  simp only
  have hun : (E.new.un (ix y (sz1 y)) (cnt y.length (sz1 y))).Ok := E.un_ok E.new_ok i0 i1 (by omega)
  have hs := un_same17 (e := E.new) (v := ix y (sz1 y)) (ft := cnt y.length (sz1 y))
  have ht := E.un_tell E.new_ok i0 i1 (ft := cnt y.length (sz1 y)) (by omega)
  rw [E.new_tell] at ht
  have hk0 : E.new.k = 0 := rfl
  have hr0 : E.new.r = 0 := rfl
  have low : (E.new.un (ix y (sz1 y)) (cnt y.length (sz1 y))).Low := by
    refine ⟨by omega, ?_⟩
    rcases Int.lt_or_le 256 (cnt y.length (sz1 y)) with c | c
    · obtain ⟨b0, b1, _⟩ := ub_range (ft := cnt y.length (sz1 y)) c (by omega)
      have := hs.2.2.2.2 c
      omega
    · have := hs.1 c
      omega
  have hfit := (E.out_fit hun (n := 20) (by omega)).2.2.2.2
  rw [edone_F hun (low.lim (by omega)) (by omega), obind_of, if_neg (show ¬ ((20 : Int) < 0 ∨ (20 : Int) > 1275) by omega), if_neg (show ¬ (E.new.un (ix y (sz1 y)) (cnt y.length (sz1 y))).tell > 8 * 20 by omega)]
  simp only [if_true]
  rw [show (20 : Int).toNat = 20 from rfl]
  have hbb : Bytes (tb 20 ((E.new.un (ix y (sz1 y)) (cnt y.length (sz1 y))).out 20)) := tb_bytes _ _
  have hbl : (tb 20 ((E.new.un (ix y (sz1 y)) (cnt y.length (sz1 y))).out 20)).length = 20 := tb_len _ _
  generalize tb 20 ((E.new.un (ix y (sz1 y)) (cnt y.length (sz1 y))).out 20) = x at hfit hbb hbl ⊢
  obtain ⟨t, hr⟩ := un_read (N := 30000) hbb (by omega) i0 i1 (by omega) hfit (by omega)
  rw [rnew_F hbb (by omega) (by omega), obind_of, qcount_F _ _ (by omega), obind_of, g3, hA]
  simp only
  rw [hr, obind_of]
  simp only
  rw [qvector_F hv (by omega), obind_of, Int.toNat_natCast, Int.toNat_natCast, i2, same17_F _ (by omega) (by omega), obind_of]
  simp
end
end Go.Pl
