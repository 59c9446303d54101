/-
  Layer 9: pulses are written by the book, and read back.
  Conditions: none.
-/
import Derived.Test.YtlbdcahecabfkaaPlPu3
set_option linter.unusedSimpArgs false
set_option linter.unusedVariables false
namespace Go.Pl
open Go.Eng Go.Proofs
section
variable {N : Nat}
theorem rsize_F (v : Int) (h0 : -100 ≤ v) (h1 : v ≤ 100) : Rc.rsize9.F N v = some (ab v) := by
  unfold Rc.rsize9.F ab
  rw [i64 (by omega) (by omega)]
  simp only [br_dec]
  split <;> simp
end
def spE : Nat → List Int → E → E
  | 0, _, e => e
  | d + 1, l, e => spE d (l.drop (2 ^ d)) (spE d (l.take (2 ^ d)) (e.un (cnt (l.take (2 ^ d))) (cnt l + 1)))
def sgE : List Int → E → E
  | [], e => e
  | v :: r, e => sgE r (if v = 0 then e else e.bt (if v < 0 then 1 else 0) 1)
def wrB (l : List Int) (e : E) : E := sgE l (spE 4 l (e.sy (cnt l).toNat (icdfT 5)))
def wrE : Nat → List Int → E → E
  | 0, _, e => e
  | m + 1, l, e => wrE m (l.drop 16) (wrB (l.take 16) e)
theorem un_same {e : E} {v ft : Int} (h : ft ≤ 256) : (e.un v ft).r = e.r ∧ e.k ≤ (e.un v ft).k ∧ (e.un v ft).k ≤ e.k + 4 := by
  unfold E.un
  split
  · exact ⟨rfl, Nat.le_refl _, by omega⟩
  · have := E.tk_same e v (v + 1) ft
    exact ⟨this.1, this.2.2.1, this.2.2.2⟩
theorem cnt_half {l : List Int} (n : Nat) : cnt l = cnt (l.take n) + cnt (l.drop n) ∧ 0 ≤ cnt (l.take n) ∧ 0 ≤ cnt (l.drop n) := by
  refine ⟨?_, (cnt_range _).1, (cnt_range _).1⟩
  rw [← cnt_app, List.take_append_drop]
theorem spE_facts : ∀ (d : Nat) (l : List Int) (e : E), e.Ok → cnt l ≤ 16 → (spE d l e).Ok ∧ e.k ≤ (spE d l e).k ∧ (spE d l e).k + 4 ≤ e.k + 4 * 2 ^ d ∧ (spE d l e).r = e.r
  | 0, l, e, h, hc => ⟨h, Nat.le_refl _, by simp [spE], rfl⟩
  | d + 1, l, e, h, hc => by
    obtain ⟨c1, c2, c3⟩ := cnt_half (l := l) (2 ^ d)
    have hu := E.un_ok h (v := cnt (l.take (2 ^ d))) (ft := cnt l + 1) c2 (by omega) (by omega)
    have us := un_same (e := e) (v := cnt (l.take (2 ^ d))) (ft := cnt l + 1) (by omega)
    obtain ⟨a1, a2, a3, a4⟩ := spE_facts d (l.take (2 ^ d)) _ hu (by omega)
    obtain ⟨b1, b2, b3, b4⟩ := spE_facts d (l.drop (2 ^ d)) _ a1 (by omega)
    have hp : 2 ^ (d + 1) = 2 * 2 ^ d := by rw [Nat.pow_succ, Nat.mul_comm]
    exact ⟨b1, by simp only [spE]; omega, by simp only [spE]; omega, by simp only [spE]; omega⟩
theorem sgE_facts : ∀ (l : List Int) (e : E), e.Ok → (sgE l e).Ok ∧ (sgE l e).k = e.k ∧ e.r ≤ (sgE l e).r ∧ (sgE l e).r ≤ e.r + l.length
  | [], e, h => ⟨h, rfl, Nat.le_refl _, by simp [sgE]⟩
  | v :: r, e, h => by
    simp only [sgE]
    split
    · obtain ⟨a1, a2, a3, a4⟩ := sgE_facts r e h
      exact ⟨a1, a2, a3, by simp only [List.length_cons]; omega⟩
    · obtain ⟨a1, a2, a3, a4⟩ := sgE_facts r _ (E.bt_ok h (v := if v < 0 then 1 else 0) (n := 1) (by split <;> omega) (by split <;> omega))
      have e1 : (e.bt (if v < 0 then 1 else 0) 1).k = e.k := rfl
      have e2 : (e.bt (if v < 0 then 1 else 0) 1).r = e.r + 1 := rfl
      exact ⟨a1, by omega, by omega, by simp only [List.length_cons]; omega⟩
theorem sy5_facts {e : E} (h : e.Ok) {s : Nat} (hs : s ≤ 16) : (e.sy s (icdfT 5)).Ok ∧ e.k ≤ (e.sy s (icdfT 5)).k ∧ (e.sy s (icdfT 5)).k ≤ e.k + 4 ∧ (e.sy s (icdfT 5)).r = e.r := by
  have p := sym_place g5 (s := s) (by rw [len5]; omega)
  have := E.tk_same e (symL (icdfT 5) s) (256 - (icdfT 5).getD s 0) 256
  exact ⟨E.tk_ok h p, this.2.2.1, this.2.2.2, this.1⟩
theorem wrB_facts {l : List Int} {e : E} (h : e.Ok) (hl : l.length = 16) (hc : cnt l ≤ 16) : (wrB l e).Ok ∧ e.k ≤ (wrB l e).k ∧ (wrB l e).k ≤ e.k + 68 ∧ e.r ≤ (wrB l e).r ∧ (wrB l e).r ≤ e.r + 16 := by
  obtain ⟨s1, s2, s3, s4⟩ := sy5_facts h (s := (cnt l).toNat) (by omega)
  obtain ⟨a1, a2, a3, a4⟩ := spE_facts 4 l _ s1 hc
  obtain ⟨g1, g2, g3, g4⟩ := sgE_facts l _ a1
  unfold wrB
  exact ⟨g1, by omega, by omega, by omega, by omega⟩
theorem okB_head {m : Nat} {l : List Int} (h : okB (m + 1) l = true) : cnt (l.take 16) ≤ 16 ∧ okB m (l.drop 16) = true := by
  simp only [okB, Bool.and_eq_true, decide_eq_true_eq] at h
  exact h
theorem wrE_facts : ∀ (m : Nat) (l : List Int) (e : E), e.Ok → l.length = 16 * m → okB m l = true → (wrE m l e).Ok ∧ e.k ≤ (wrE m l e).k ∧ (wrE m l e).k ≤ e.k + 68 * m ∧ e.r ≤ (wrE m l e).r ∧ (wrE m l e).r ≤ e.r + 16 * m
  | 0, l, e, h, _, _ => ⟨h, Nat.le_refl _, by simp [wrE], Nat.le_refl _, by simp [wrE]⟩
  | m + 1, l, e, h, hl, ho => by
    obtain ⟨o1, o2⟩ := okB_head ho
    obtain ⟨b1, b2, b3, b4, b5⟩ := wrB_facts h (l := l.take 16) (by rw [List.length_take]; omega) o1
    obtain ⟨i1, i2, i3, i4, i5⟩ := wrE_facts m (l.drop 16) _ b1 (by rw [List.length_drop]; omega) o2
    exact ⟨i1, by simp only [wrE]; omega, by simp only [wrE]; omega, by simp only [wrE]; omega, by simp only [wrE]; omega⟩
section
variable {N : Nat}
theorem spread9_G (hN : 30000 ≤ N) {M : Nat} (hM : True → M ≤ 10000) : ∀ (nn d : Nat) (l : List Int) (e : E), e.Ok → e.r ≤ M → e.k + 4 * 2 ^ d ≤ M → l.length = 2 ^ d → d ≤ 4 → cnt l ≤ 16 → d < nn →
    Rc.spread9.G N nn e.val e.rng e.r e.count l e.told e.bits = some (0, (spE d l e).val, (spE d l e).rng, ((spE d l e).r : Int), (spE d l e).count, (spE d l e).told, (spE d l e).bits)
  | 0, d, l, e, _, _, _, _, _, _, h => by omega
  | nn + 1, 0, l, e, h, hr, hk, hl, hd, hc, hn => by
    rw [Nat.pow_zero] at hl
    unfold Rc.spread9.G
    simp only [br_beq]
    rw [if_pos (by omega)]
    rfl
  | nn + 1, d + 1, l, e, h, hr, hk, hl, hd, hc, hn => by
    have hM' := hM trivial
    obtain ⟨c1, c2, c3⟩ := cnt_half (l := l) (2 ^ d)
    have hp : 2 ^ (d + 1) = 2 * 2 ^ d := by rw [Nat.pow_succ, Nat.mul_comm]
    have hp1 : 1 ≤ 2 ^ d := Nat.one_le_two_pow
    have hp2 := p2_16 hd
    have low : e.Low := ⟨by omega, by omega⟩
    have hu := E.un_ok h (v := cnt (l.take (2 ^ d))) (ft := cnt l + 1) c2 (by omega) (by omega)
    have us := un_same (e := e) (v := cnt (l.take (2 ^ d))) (ft := cnt l + 1) (by omega)
    obtain ⟨a1, a2, a3, a4⟩ := spE_facts d (l.take (2 ^ d)) _ hu (by omega)
    have hH : IntKind.i64.wrap ((l.length : Int).tdiv 2) = ((2 ^ d : Nat) : Int) := by
      rw [tdiv_ediv (by omega), i64 (by omega) (by omega)]
      omega
    unfold Rc.spread9.G
    simp only [br_beq, br_bne, hH, Int.toNat_natCast, List.drop_zero, Nat.sub_zero]
    rw [if_neg (by omega), chk_pos (by omega), count9_F (by rw [List.length_take]; omega) (by rw [List.length_take]; omega), obind_of, count9_F (by omega) (by omega), obind_of, i64 (x := cnt l + 1) (by omega) (by omega),
      euint_F h (low.lim hN) (by omega) _ _, if_pos (by omega), obind_of]
    simp only [if_true]
    have ih1 := spread9_G hN hM nn d (l.take (2 ^ d)) _ hu (by omega) (by omega) (by rw [List.length_take]; omega) (by omega) (by omega) (by omega)
    rw [ih1, obind_of]
    simp only [if_true]
    have ih2 := spread9_G hN hM nn d (l.drop (2 ^ d)) _ a1 (by omega) (by omega) (by rw [List.length_drop]; omega) (by omega) (by omega) (by omega)
    have ht : List.take (l.length - 2 ^ d) (List.drop (2 ^ d) l) = List.drop (2 ^ d) l := List.take_of_length_le (by rw [List.length_drop]; omega)
    rw [chk_pos (by omega), ht, ih2, obind_of]
    rfl
theorem signs9_loop {ev er erb ec : Int} {el et ew : List Int} (hN : 30000 ≤ N) {l : List Int} (hl : l.length ≤ 1000) : ∀ (nn k : Nat) (e : E) (s4 : Int), e.Ok → e.k ≤ 10000 → e.r + l.length ≤ 100000 + k → k ≤ l.length → l.length - k < nn →
    ∃ s, Rc.signs9.loop2 N nn ev er erb ec el et ew (l.length : Int) e.val e.rng l e.told s4 k e.r e.count e.bits = some (.inl (s, ((sgE (l.drop k) e).r : Int), (sgE (l.drop k) e).count, (sgE (l.drop k) e).bits))
  | 0, k, e, s4, _, _, _, _, h => by omega
  | nn + 1, k, e, s4, h, hk, hr, hkl, hn => by
    unfold Rc.signs9.loop2
    simp only [br_dec, br_beq, br_bne, chkI_same, chkL_same]
    by_cases c : k < l.length
    · rw [if_pos (by omega), chk_pos (by omega), Int.toNat_natCast, i64 (x := (k : Int) + 1) (by omega) (by omega), drop_cons c]
      generalize l.getD k 0 = v
      have ih := fun e' (a : E.Ok e') (b : e'.k ≤ 10000) (c' : e'.r + l.length ≤ 100000 + (k + 1)) => signs9_loop (ev := ev) (er := er) (erb := erb) (ec := ec) (el := el) (et := et) (ew := ew) hN hl nn (k + 1) e' s4 a b c' (by omega) (by omega)
      rw [show ((k + 1 : Nat) : Int) = (k : Int) + 1 by omega] at ih
      have hb := fun (x : Int) => ebits_F (N := N) h (by omega) (by omega) (by omega) x 1 (val := e.val) (rng := e.rng) (told := e.told)
      by_cases c0 : v = 0
      · rw [if_pos c0]
        simp only [sgE]
        rw [if_pos c0]
        exact ih e h hk (by omega)
      rw [if_neg c0]
      by_cases c1 : v < 0
      · have hok := E.bt_ok h (v := 1) (n := 1) (by omega) (by omega)
        rw [if_pos c1, hb 1, if_pos (by decide), obind_of, show (1 : Int).toNat = 1 from rfl]
        simp only [if_true, sgE]
        rw [if_neg c0, if_pos c1]
        exact ih (e.bt 1 1) hok hk (by have : (e.bt 1 1).r = e.r + 1 := rfl; omega)
      · have hok := E.bt_ok h (v := 0) (n := 1) (by omega) (by omega)
        rw [if_neg c1, hb 0, if_pos (by decide), obind_of, show (1 : Int).toNat = 1 from rfl]
        simp only [if_true, sgE]
        rw [if_neg c0, if_neg c1]
        exact ih (e.bt 0 1) hok hk (by have : (e.bt 0 1).r = e.r + 1 := rfl; omega)
    · rw [if_neg (by omega), List.drop_eq_nil_of_le (by omega)]
      exact ⟨_, rfl⟩
theorem sgE_same : ∀ (l : List Int) (e : E), (sgE l e).val = e.val ∧ (sgE l e).rng = e.rng ∧ (sgE l e).told = e.told
  | [], e => ⟨rfl, rfl, rfl⟩
  | v :: r, e => by
    simp only [sgE]
    split
    · exact sgE_same r e
    · exact sgE_same r (e.bt (if v < 0 then 1 else 0) 1)
theorem signs9_F (hN : 30000 ≤ N) {l : List Int} (hl : l.length ≤ 1000) {e : E} (h : e.Ok) (hk : e.k ≤ 10000) (hr : e.r ≤ 90000) :
    Rc.signs9.F N e.val e.rng e.r e.count l e.told e.bits = some (0, (sgE l e).val, (sgE l e).rng, ((sgE l e).r : Int), (sgE l e).count, (sgE l e).told, (sgE l e).bits) := by
  unfold Rc.signs9.F
  obtain ⟨s, hs⟩ := signs9_loop (N := N) (ev := e.val) (er := e.rng) (erb := (e.r : Int)) (ec := e.count) (el := l) (et := e.told) (ew := e.bits) hN hl N 0 e 0 h hk (by omega) (by omega) (by omega)
  rw [show ((0 : Nat) : Int) = 0 from rfl, List.drop_zero] at hs
  obtain ⟨a1, a2, a3⟩ := sgE_same l e
  rw [hs, osum_inl, a1, a2, a3]
theorem write9_loop {ev er erb ec : Int} {el et ew : List Int} (hN : 30000 ≤ N) {l : List Int} (hl : l.length ≤ 480) : ∀ (nn m k : Nat) (e : E) (s4 : Int), e.Ok → e.k + 68 * m ≤ 9000 → e.r + 16 * m ≤ 9000 → k + 16 * m = l.length → okB m (l.drop k) = true → m < nn →
    ∃ s, Rc.write9.loop4 N nn ev er erb ec el et ew l s4 k e.val e.rng e.r e.count e.told e.bits = some (.inl (s, (wrE m (l.drop k) e).val, (wrE m (l.drop k) e).rng, ((wrE m (l.drop k) e).r : Int), (wrE m (l.drop k) e).count, (wrE m (l.drop k) e).told, (wrE m (l.drop k) e).bits))
  | 0, m, k, e, s4, _, _, _, _, _, h => by omega
  | nn + 1, 0, k, e, s4, h, hk, hr, hkl, ho, hn => by
    unfold Rc.write9.loop4
    simp only [br_dec]
    rw [if_neg (by omega)]
    exact ⟨_, rfl⟩
  | nn + 1, m + 1, k, e, s4, h, hk, hr, hkl, ho, hn => by
    obtain ⟨o1, o2⟩ := okB_head ho
    rw [List.drop_drop] at o2
    have c0 := (cnt_range ((l.drop k).take 16)).1
    have hlen : ((l.drop k).take 16).length = 16 := by rw [List.length_take, List.length_drop]; omega
    have low : e.Low := ⟨by omega, by omega⟩
    obtain ⟨s1, s2, s3, s5⟩ := sy5_facts h (s := (cnt ((l.drop k).take 16)).toNat) (by omega)
    obtain ⟨a1, a2, a3, a4⟩ := spE_facts 4 ((l.drop k).take 16) _ s1 o1
    obtain ⟨b1, b2, b3, b4, b5⟩ := wrB_facts h hlen o1
    unfold Rc.write9.loop4
    simp only [br_dec, br_bne, chkL_same]
    have hsy := (esymbol_F h (low.lim hN) (cnt ((l.drop k).take 16)) (icdfT 5) (raw := e.bits)).1 ⟨g5, c0, by rw [len5]; omega⟩
    have hbits : (e.sy (cnt ((l.drop k).take 16)).toNat (icdfT 5)).bits = e.bits := by
      have := E.tk_same e (symL (icdfT 5) (cnt ((l.drop k).take 16)).toNat) (256 - (icdfT 5).getD (cnt ((l.drop k).take 16)).toNat 0) 256
      unfold E.bits E.sy
      rw [this.1, this.2.1]
    rw [if_pos (by omega), i64 (x := (k : Int) + 16) (by omega) (by omega), chk_pos (by omega), chk_pos (by omega), show ((k : Int) + 16).toNat = k + 16 by omega, Int.toNat_natCast, show k + 16 - k = 16 by omega,
      count9_F (by omega) (by omega), obind_of, ticdf_F, obind_of, hsy, obind_of]
    simp only [if_true]
    have hsp : Rc.spread9.F N _ _ _ _ ((l.drop k).take 16) _ _ = _ := spread9_G (N := N) hN (M := 10000) (fun _ => Nat.le_refl _) N 4 ((l.drop k).take 16) _ s1 (by omega) (by omega) hlen (by omega) o1 (by omega)
    rw [hbits, s5] at hsp
    rw [hsp, obind_of]
    simp only [if_true]
    rw [signs9_F hN (by omega) a1 (by omega) (by omega), obind_of]
    simp only [if_true]
    have ih := write9_loop (ev := ev) (er := er) (erb := erb) (ec := ec) (el := el) (et := et) (ew := ew) hN hl nn m (k + 16) (wrB ((l.drop k).take 16) e) s4 b1 (by omega) (by omega) (by omega) o2 (by omega)
    rw [show ((k + 16 : Nat) : Int) = (k : Int) + 16 by omega, ← List.drop_drop] at ih
    exact ih
theorem write9_F (hN : 30000 ≤ N) (l : List Int) :
    Rc.write9.F N E.new.val E.new.rng E.new.r E.new.count l E.new.told E.new.bits =
      some (if goodB l then (0, (wrE (l.length / 16) l E.new).val, (wrE (l.length / 16) l E.new).rng, ((wrE (l.length / 16) l E.new).r : Int), (wrE (l.length / 16) l E.new).count, (wrE (l.length / 16) l E.new).told, (wrE (l.length / 16) l E.new).bits)
        else (1, E.new.val, E.new.rng, (E.new.r : Int), E.new.count, E.new.told, E.new.bits)) := by
  unfold Rc.write9.F
  rw [good9_F l hN, obind_of, br_not]
  by_cases g : goodB l = true
  · have g' := g
    unfold goodB mayB at g'
    simp only [Bool.and_eq_true, decide_eq_true_eq] at g'
    obtain ⟨⟨g1, g2, g3⟩, g4⟩ := g'
    have hk : E.new.k = 0 := rfl
    have hr : E.new.r = 0 := rfl
    obtain ⟨s, hs⟩ := write9_loop (N := N) (ev := E.new.val) (er := E.new.rng) (erb := (E.new.r : Int)) (ec := E.new.count) (el := l) (et := E.new.told) (ew := E.new.bits) hN g2 N (l.length / 16) 0 E.new 0 E.new_ok (by omega) (by omega) (by omega) (by rwa [List.drop_zero]) (by omega)
    rw [show ((0 : Nat) : Int) = 0 from rfl, List.drop_zero] at hs
    rw [if_pos g, hs, osum_inl, if_pos g]
  · rw [if_neg g, if_neg g]
end
section
variable {b : List Int}
theorem spE_back (hb : Bytes b) : ∀ (d : Nat) (l : List Int) (e : E), e.Ok → l.length = 2 ^ d → cnt l ≤ 16 → (spE d l e).Fit b → e.Fit b ∧ shq b d (cnt l) (e.rd b) = ((spE d l e).rd b, l.map fun v => ab (c32 v))
  | 0, l, e, h, hl, hc, hf => by
    match l, hl with
    | [v], _ => exact ⟨hf, by simp [shq, spE, cnt, tot]⟩
  | d + 1, l, e, h, hl, hc, hf => by
    obtain ⟨c1, c2, c3⟩ := cnt_half (l := l) (2 ^ d)
    have hp : 2 ^ (d + 1) = 2 * 2 ^ d := by rw [Nat.pow_succ, Nat.mul_comm]
    have hu := E.un_ok h (v := cnt (l.take (2 ^ d))) (ft := cnt l + 1) c2 (by omega) (by omega)
    obtain ⟨a1, a2, a3, a4⟩ := spE_facts d (l.take (2 ^ d)) _ hu (by omega)
    simp only [spE] at hf
    obtain ⟨f2, r2⟩ := spE_back hb d (l.drop (2 ^ d)) _ a1 (by rw [List.length_drop]; omega) (by omega) hf
    obtain ⟨f1, r1⟩ := spE_back hb d (l.take (2 ^ d)) _ hu (by rw [List.length_take]; omega) (by omega) f2
    have hrd : e.Fit b ∧ rdv b (e.rd b) (cnt l + 1) = (cnt (l.take (2 ^ d)), (e.un (cnt (l.take (2 ^ d))) (cnt l + 1)).rd b) := by
      unfold rdv
      by_cases cz : cnt l = 0
      · rw [if_pos (by omega)]
        have eu : e.un (cnt (l.take (2 ^ d))) (cnt l + 1) = e := by unfold E.un; rw [if_pos (by omega)]
        rw [eu] at f1 ⊢
        exact ⟨f1, by rw [show cnt (l.take (2 ^ d)) = 0 by omega]⟩
      · rw [if_neg (by omega)]
        obtain ⟨u1, u2, u3, u4⟩ := E.us_back hb h (v := cnt (l.take (2 ^ d))) (ft := cnt l + 1) c2 (by omega) (by omega) (by omega) f1
        exact ⟨u1, by rw [u2, u3]⟩
    refine ⟨hrd.1, ?_⟩
    simp only [shq]
    rw [hrd.2]
    simp only
    rw [r1]
    simp only
    rw [show cnt l - cnt (l.take (2 ^ d)) = cnt (l.drop (2 ^ d)) by omega, r2]
    simp only [spE]
    rw [← List.map_append, List.take_append_drop]
theorem sgE_fit (hb : Bytes b) : ∀ (l : List Int) (e : E), e.Ok → (sgE l e).Fit b → e.Fit b ∧ (sgE l e).rd b = e.rd b
  | [], e, _, h => ⟨h, rfl⟩
  | v :: r, e, h, hf => by
    simp only [sgE] at hf ⊢
    by_cases c : v = 0
    · rw [if_pos c] at hf ⊢
      exact sgE_fit hb r e h hf
    · rw [if_neg c] at hf ⊢
      have v0 : 0 ≤ (if v < 0 then (1 : Int) else 0) := by split <;> omega
      have v1 : (if v < 0 then (1 : Int) else 0) < 2 ^ 1 := by split <;> omega
      obtain ⟨i1, i2⟩ := sgE_fit hb r _ (E.bt_ok h v0 v1) hf
      exact ⟨(E.bt_fit h v0 v1 i1).1, i2⟩
theorem sgE_back (hb : Bytes b) : ∀ (l : List Int) (e : E) (w : W), e.Ok → (∀ v ∈ l, -32 ≤ v ∧ v ≤ 32) → (sgE l e).Fit b → w.Ok → w.At b e.r →
    ∃ w', sgn b (l.map fun v => ab (c32 v)) w = (l, w', ((sgE l e).r : Int) - (e.r : Int)) ∧ w'.Ok ∧ w'.At b (sgE l e).r
  | [], e, w, _, _, _, hw, hat => ⟨w, by simp [sgn, sgE], hw, hat⟩
  | v :: r, e, w, h, hv, hf, hw, hat => by
    have hv1 := hv v (by simp)
    have hvr : ∀ x ∈ r, -32 ≤ x ∧ x ≤ 32 := fun x hx => hv x (by simp [hx])
    have hc : c32 v = v := by unfold c32; rw [if_neg (by omega), if_neg (by omega)]
    simp only [List.map_cons, sgn, hc]
    simp only [sgE] at hf ⊢
    by_cases c : v = 0
    · rw [if_pos c] at hf ⊢
      obtain ⟨w', i1, i2, i3⟩ := sgE_back hb r e w h hvr hf hw hat
      rw [if_neg (show ¬ ab v > 0 by rw [c]; decide), i1]
      exact ⟨w', by rw [c]; rfl, i2, i3⟩
    · rw [if_neg c] at hf ⊢
      have v0 : 0 ≤ (if v < 0 then (1 : Int) else 0) := by split <;> omega
      have v1 : (if v < 0 then (1 : Int) else 0) < 2 ^ 1 := by split <;> omega
      have hok := E.bt_ok h v0 v1
      have hfe := (sgE_fit hb r _ hok hf).1
      obtain ⟨g1, g2, g3, g4⟩ := E.bt_back hb h (by omega) v0 v1 hfe hat
      obtain ⟨w', i1, i2, i3⟩ := sgE_back hb r _ (w.next b 1) hok hvr hf (W.next_ok hb hw (by omega)) g3
      have e2 : (e.bt (if v < 0 then 1 else 0) 1).r = e.r + 1 := rfl
      rw [if_pos (show ab v > 0 by unfold ab; split <;> omega), i1]
      refine ⟨w', ?_, i2, i3⟩
      simp only [g2]
      refine Prod.ext ?_ (Prod.ext rfl ?_)
      · simp only
        congr 1
        unfold ab
        by_cases c1 : v < 0
        · rw [if_pos c1, if_pos c1, if_pos rfl]; omega
        · rw [if_neg c1, if_neg c1, if_neg (by omega)]
      · simp only
        omega
theorem cnt_small : ∀ {l : List Int}, cnt l ≤ 16 → ∀ v ∈ l, -32 ≤ v ∧ v ≤ 32
  | [], _, v, hv => by simp at hv
  | x :: r, h, v, hv => by
    have e : cnt (x :: r) = ab (c32 x) + cnt r := rfl
    have hr := (cnt_range r).1
    have hx := c32_ab x
    rcases List.mem_cons.1 hv with rfl | hv
    · rw [e] at h
      unfold ab c32 at h hx
      constructor <;> (split at h <;> split at h <;> (try split at h) <;> omega)
    · exact cnt_small (by omega) v hv
theorem wrB_back (hb : Bytes b) {l : List Int} {e : E} (h : e.Ok) (hl : l.length = 16) (hc : cnt l ≤ 16) (hf : (wrB l e).Fit b) : e.Fit b ∧
    ∀ (w : W), w.Ok → w.At b e.r → ∃ w', (bsh b (e.rd b)).1 = (wrB l e).rd b ∧ sgn b (bsh b (e.rd b)).2 w = (l, w', ((wrB l e).r : Int) - (e.r : Int)) ∧ w'.Ok ∧ w'.At b (wrB l e).r := by
  have c0 := (cnt_range l).1
  obtain ⟨s1, s2, s3, s4⟩ := sy5_facts h (s := (cnt l).toNat) (by omega)
  obtain ⟨a1, a2, a3, a4⟩ := spE_facts 4 l _ s1 hc
  unfold wrB at hf
  obtain ⟨f1, r1⟩ := sgE_fit hb l _ a1 hf
  obtain ⟨f2, r2⟩ := spE_back hb 4 l _ s1 hl hc f1
  obtain ⟨f3, r3, r4⟩ := E.sy_back hb h g5 (s := (cnt l).toNat) (by rw [len5]; omega) f2
  have hbs : bsh b (e.rd b) = ((spE 4 l (e.sy (cnt l).toNat (icdfT 5))).rd b, l.map fun v => ab (c32 v)) := by
    unfold bsh
    rw [r3, ← r4, show (((cnt l).toNat : Nat) : Int) = cnt l by omega, r2]
  refine ⟨f3, fun w hw hat => ?_⟩
  rw [hbs]
  obtain ⟨w', i1, i2, i3⟩ := sgE_back hb l _ w a1 (cnt_small hc) hf hw (by rw [a4, s4]; exact hat)
  rw [a4, s4] at i1
  exact ⟨w', by unfold wrB; rw [r1], i1, i2, i3⟩
theorem wrE_back (hb : Bytes b) : ∀ (m : Nat) (l : List Int) (e : E), e.Ok → l.length = 16 * m → okB m l = true → (wrE m l e).Fit b → e.Fit b ∧
    ∀ (w : W) (C : Int) (o : List Int), w.Ok → w.At b e.r → ∃ w', blks b m (e.rd b) w C o = ((wrE m l e).rd b, w', C + (((wrE m l e).r : Int) - (e.r : Int)), o ++ l)
  | 0, l, e, h, hl, ho, hf => by
    refine ⟨hf, fun w C o hw hat => ⟨w, ?_⟩⟩
    have : l = [] := by simpa using hl
    simp [blks, wrE, this]
  | m + 1, l, e, h, hl, ho, hf => by
    obtain ⟨o1, o2⟩ := okB_head ho
    have hlen : (l.take 16).length = 16 := by rw [List.length_take]; omega
    obtain ⟨b1, b2, b3, b4, b5⟩ := wrB_facts h hlen o1
    simp only [wrE] at hf
    obtain ⟨i1, i2⟩ := wrE_back hb m (l.drop 16) _ b1 (by rw [List.length_drop]; omega) o2 hf
    obtain ⟨k1, k2⟩ := wrB_back hb h hlen o1 i1
    refine ⟨k1, fun w C o hw hat => ?_⟩
    obtain ⟨w1, q1, q2, q3, q4⟩ := k2 w hw hat
    obtain ⟨w2, j⟩ := i2 w1 (C + (((wrB (l.take 16) e).r : Int) - (e.r : Int))) (o ++ l.take 16) q3 q4
    refine ⟨w2, ?_⟩
    simp only [blks]
    rw [q1, q2]
    simp only
    rw [j]
    simp only [wrE, List.append_assoc, List.take_append_drop]
    refine Prod.ext rfl (Prod.ext rfl (Prod.ext ?_ rfl))
    simp only
    omega
end
section
variable {N : Nat}
end
end Go.Pl
