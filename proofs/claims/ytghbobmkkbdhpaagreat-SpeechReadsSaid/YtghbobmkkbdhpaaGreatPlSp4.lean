/-
  Layer 14: the reference reads a frame alike; SpeechReads.
  Conditions: none.
-/
import Derived.Test.YtghbobmkkbdhpaaGreatPlPuToPlSp3
import Derived.Test.YtghbobmkkbdhpaaGreatPlKnown14
set_option linter.unusedVariables false
set_option linter.unusedSimpArgs false
namespace Go.Pl
open Go.Eng Go.Proofs
section
variable {N : Nat} {b : List Int}
theorem rvoiced_F (hb : Bytes b) (hl : b.length < 140737488351233) {rate ms : Int} (hm : May14 rate ms) (was : Int) {s : RS} {k : Nat} (h : s.Ok k) (hk : k ≤ 100) (hN : 30000 ≤ N) (eq : Int) :
    ∃ eq', Rc.rvoiced.F N rate ms was s.q.rng s.q.val s.q.last (fr b s.q.m) (fr b s.w.k) s.w.win (s.w.wai : Int) s.ct eq s.bad b =
      some ((fr14 b rate ms was s).kind, (fr14 b rate ms was s).one, (fr14 b rate ms was s).btw, (fr14 b rate ms was s).s.q.rng, (fr14 b rate ms was s).s.q.val, (fr14 b rate ms was s).s.q.last, fr b (fr14 b rate ms was s).s.q.m, fr b (fr14 b rate ms was s).s.w.k, (fr14 b rate ms was s).s.w.win, ((fr14 b rate ms was s).s.w.wai : Int), (fr14 b rate ms was s).s.ct, eq', (fr14 b rate ms was s).fresh, (fr14 b rate ms was s).s.bad, (fr14 b rate ms was s).two, (fr14 b rate ms was s).gains, (fr14 b rate ms was s).ltps.map (fun r => r.headD 0), (fr14 b rate ms was s).ltps.map (fun r => r.tail.headD 0), (fr14 b rate ms was s).pulses) := by
  obtain ⟨m1, m2, m3, m4, m5, m6, m7, m8⟩ := may_facts hm
  obtain ⟨f0, f1, z0, l0, l1, l2, l3⟩ := lw14_of hm.1
  have ho := ord14_le rate
  obtain ⟨t0, t1⟩ := RS.ct_rg h (by omega)
  have h1 := RS.bit_ok hb h
  obtain ⟨t10, t11⟩ := RS.ct_rg h1 (by omega)
  have h2 := RS.sy_ok hb h1 g0
  obtain ⟨t20, t21⟩ := RS.ct_rg h2 (by omega)
  have h3 := RS.sy_ok hb h2 g3
  obtain ⟨a1, a2, a3, a4, a5⟩ := two14_facts hb (ord14 rate) (k + 3) _ [] h3 (fun x hx => by simp at hx)
  obtain ⟨h5, u0, u1⟩ := RS.un_ok hb a1 (ft := 5) (by omega) (by omega)
  obtain ⟨c1, c2, c3, c4, c5⟩ := gns14_facts hb (cnt14 ms) _ (s.w.val b 1 == 1) _ was [] h5 (fun x hx => by simp at hx)
  obtain ⟨eq1, q0⟩ := (rsymbol_F (N := N) (b := b) (back := fr b (s.w.next b 1).k) (wait := (s.w.next b 1).win) (waiting := ((s.w.next b 1).wai : Int)) (eq := eq) (bad := s.bad) hb hl h1.q (icdfT 0) t10 (by omega) (by omega)).1 g0
  rw [ct_of (Q.sy_m b _ (icdfT 0)).1] at q0
  obtain ⟨eq2, q3⟩ := (rsymbol_F (N := N) (b := b) (back := fr b (s.w.next b 1).k) (wait := (s.w.next b 1).win) (waiting := ((s.w.next b 1).wai : Int)) (eq := eq1) (bad := s.bad) hb hl h2.q (icdfT 3) t20 (by omega) (by omega)).1 g3
  rw [ct_of (Q.sy_m b _ (icdfT 3)).1] at q3
  obtain ⟨eq3, hT⟩ := voiced_two (N := N) (rate := rate) (kind := ((s.bit b).q.sk (icdfT 0) : Int)) (one := (((s.bit b).sy b (icdfT 0)).q.sk (icdfT 3) : Int)) (btw := 0) (fresh := s.w.val b 1 == 1) hb (fun _ => hl) hN N (ord14 rate) 0 (k + 3) _ [] eq2 h3 (by omega) (by omega) rfl (by omega)
  obtain ⟨eq4, hU⟩ := (RS.un_F (N := N) hb hl a1 (by omega) (ft := 5) (by omega) (by omega) (by omega)).2 eq3
  rw [a2, a3] at hU
  obtain ⟨eq5, hG⟩ := voiced_gains (N := N) (ms := ms) (cnt := cnt14 ms) (kind := ((s.bit b).q.sk (icdfT 0) : Int)) (one := (((s.bit b).sy b (icdfT 0)).q.sk (icdfT 3) : Int)) (btw := (two14 b (ord14 rate) (((s.bit b).sy b (icdfT 0)).sy b (icdfT 3)) []).1.uv b 5) (fresh := s.w.val b 1 == 1) (two := (two14 b (ord14 rate) (((s.bit b).sy b (icdfT 0)).sy b (icdfT 3)) []).2) hb (fun _ => hl) hN m2 N (cnt14 ms) 0 (k + 3 + ord14 rate + 1) _ was [] eq4 h5 (by omega) (by omega) (by omega) rfl (by omega)
  rw [show (decide (0 = 0) && (s.w.val b 1 == 1)) = (s.w.val b 1 == 1) by simp] at hG
  have hC : s.ct + 1 = (s.bit b).ct := by simp only [RS.ct, RS.bit]; omega
  by_cases hk2 : ((s.bit b).q.sk (icdfT 0) : Int) = 2
  · obtain ⟨eq6, hL⟩ := voiced_ltps (N := N) (rate := rate) (cnt := cnt14 ms) (ms := ms) (kind := ((s.bit b).q.sk (icdfT 0) : Int)) (one := (((s.bit b).sy b (icdfT 0)).q.sk (icdfT 3) : Int)) (btw := (two14 b (ord14 rate) (((s.bit b).sy b (icdfT 0)).sy b (icdfT 3)) []).1.uv b 5) (fresh := s.w.val b 1 == 1) (two := (two14 b (ord14 rate) (((s.bit b).sy b (icdfT 0)).sy b (icdfT 3)) []).2) (gains := (gns14 b (cnt14 ms) (s.w.val b 1 == 1) ((two14 b (ord14 rate) (((s.bit b).sy b (icdfT 0)).sy b (icdfT 3)) []).1.un b 5) was []).2) hb (fun _ => hl) hN hm.1 m2 N (cnt14 ms) 0 _ _ [] eq5 c1 (by omega) (by omega) (by omega) rfl (by omega)
    rw [c2, c3] at hL
    obtain ⟨d1, d2, d3⟩ := ltp14_facts (lo := lo8 rate) hb f0 f1 (cnt14 ms) _ _ [] c1 (fun x hx => by simp at hx)
    obtain ⟨eq7, hP⟩ := rpulses_S (N := N) hb hl d1 (by omega) m6 m7 hN eq6
    refine ⟨eq7, ?_⟩
    unfold Rc.rvoiced.F
    simp only [br_beq, br_dec, chkL_same]
    rw [rbits_F hb hl h.w 1 t0 (by omega) (by omega), obind_of, if_pos (by omega), icdf_F, obind_of]
    simp only
    rw [show (1 : Int).toNat = 1 from rfl, hC]
    refine obind_step q0 ?_
    simp only
    rw [icdf_F, obind_of]
    refine obind_step q3 ?_
    simp only
    refine obind_step hT ?_
    simp only
    refine obind_step hU ?_
    simp only
    refine obind_step hG ?_
    simp only
    unfold fr14
    simp only
    rw [if_pos hk2, rlags_F, obind_of]
    simp only
    refine obind_step hL ?_
    simp only
    rw [if_pos (by omega), m8, m5, i64 (x := 16 * (blk14 rate ms : Int)) (by omega) (by omega)]
    refine obind_step hP ?_
    simp only [if_pos hk2, if_neg (show ¬ ((s.bit b).q.sk (icdfT 0) : Int) = 0 by omega)]
  · by_cases hk0 : ((s.bit b).q.sk (icdfT 0) : Int) = 0
    · refine ⟨eq5, ?_⟩
      unfold Rc.rvoiced.F
      simp only [br_beq, br_dec, chkL_same]
      rw [rbits_F hb hl h.w 1 t0 (by omega) (by omega), obind_of, if_pos (by omega), icdf_F, obind_of]
      simp only
      rw [show (1 : Int).toNat = 1 from rfl, hC]
      refine obind_step q0 ?_
      simp only
      rw [icdf_F, obind_of]
      refine obind_step q3 ?_
      simp only
      refine obind_step hT ?_
      simp only
      refine obind_step hU ?_
      simp only
      refine obind_step hG ?_
      simp only
      unfold fr14
      simp only
      rw [if_neg hk2, if_neg (by omega)]
      simp only [if_neg hk2, if_pos hk0]
      rw [← c2, ← c3]
      rfl
    · obtain ⟨eq7, hP⟩ := rpulses_S (N := N) hb hl c1 (by omega) m6 m7 hN eq5
      rw [c2, c3] at hP
      refine ⟨eq7, ?_⟩
      unfold Rc.rvoiced.F
      simp only [br_beq, br_dec, chkL_same]
      rw [rbits_F hb hl h.w 1 t0 (by omega) (by omega), obind_of, if_pos (by omega), icdf_F, obind_of]
      simp only
      rw [show (1 : Int).toNat = 1 from rfl, hC]
      refine obind_step q0 ?_
      simp only
      rw [icdf_F, obind_of]
      refine obind_step q3 ?_
      simp only
      refine obind_step hT ?_
      simp only
      refine obind_step hU ?_
      simp only
      refine obind_step hG ?_
      simp only
      unfold fr14
      simp only
      rw [if_neg hk2, if_pos (by omega), m8, m5, i64 (x := 16 * (blk14 rate ms : Int)) (by omega) (by omega)]
      refine obind_step hP ?_
      simp only [if_neg hk2, if_neg hk0]
      rfl
theorem spreadf_not {rate ms was rng val last front back window waiting count : Int} {bad : Bool} (hm : ¬ May14 rate ms) :
    Rc.spreadf.F N rate ms was rng val last front back window waiting count bad b = some (0, 0, 0, 1, rng, val, last, front, back, window, waiting, count, false, bad, [], [], [], []) := by
  unfold Rc.spreadf.F
  rw [spmay_F, obind_of, br_not, if_neg (by simpa [May14] using hm)]
  simp only [chkL_same]
end
theorem fr14_good {b : List Int} (hb : Bytes b) {rate ms : Int} (hm : May14 rate ms) (was : Int) {s : RS} {k : Nat} (h : s.Ok k) (hk : k ≤ 100) :
    GoodF rate ms (fr14 b rate ms was s).kind (fr14 b rate ms was s).one (fr14 b rate ms was s).btw (fr14 b rate ms was s).two (fr14 b rate ms was s).gains (fr14 b rate ms was s).pulses (fr14 b rate ms was s).ltps := by
  obtain ⟨a1, a2, a3, a4, a5, a6, a7, a8, a9, b1, b2, b3, b4, b5, b6, b7⟩ := fr14_facts hb hm was h hk
  refine ⟨hm, ⟨a2, a3⟩, ⟨a4, a5⟩, ⟨a6, a7⟩, ⟨a8, a9⟩, ⟨b1, b2⟩, ?_, ?_⟩
  · split
    · rename_i h2
      refine ⟨b4 h2, fun r hr => ?_⟩
      obtain ⟨x, t, rfl, h3, h4, h5, h6⟩ := b5 r hr
      exact ⟨h3, h4, h5, h6⟩
    · rename_i h2; exact b3 h2
  · split
    · rename_i h0; exact b6 h0
    · rename_i h0; exact b7 h0
def RS.new (b : List Int) : RS := ⟨Q.new b, W.new, 1, false⟩
theorem RS.new_ok {b : List Int} (hb : Bytes b) : (RS.new b).Ok 1 := ⟨Q.new_ok hb, W.new_ok, by show (0 : Int) ≤ 1; decide, by show (1 : Int) ≤ 32 * ((1 : Nat) : Int); decide, by have := (Q.new_rng b).2; simp only [RS.new]; omega⟩
theorem RS.new_ct (b : List Int) : (RS.new b).ct = cnew b := by rw [cnew_eq]; rfl
theorem speechReads_pure (b : List Int) (rate ms was : Int) (hb : Bytes b) : ∃ N, Rc.speechReads.F N b rate ms was = some true := by
  refine ⟨30000, ?_⟩
  unfold Rc.speechReads.F
  rw [awake14_F (by omega), obind_of]
  simp only [br_not, if_true, br_dec, br_beq, br_bne]
  by_cases k1 : b.length > 1500
  · rw [if_pos (by omega)]
  have hl : b.length < 140737488351233 := by omega
  have hc := cnew_range b
  have hq := Q.new_ok hb
  have ht1 : (Q.new b).tell (cnew b) = 1 := by
    have e32 : bl 2147483648 = 32 := by decide +kernel
    unfold Q.tell
    rw [cnew_eq, (Q.new_rng b).1, (Q.new_rng b).2, e32]
    rfl
  have isE : Rc.is14.F 30000 0 0 0 0 0 0 false false [] [] [] [] [] [] [] [] [] = some true := is14_yes (l := []) (by simp) (by simp) (by simp) (by simp) (by omega)
  rw [if_neg (by omega), new_F hb hl (by omega), obind_of]
  simp only
  rcases Classical.em (¬ May14 rate ms) with hm | hm
  · rw [spreadf_not hm, obind_of]
    simp only
    by_cases r1 : rate = 8000
    · have x1 : ¬ ms = 10 := fun h => hm ⟨Or.inl r1, Or.inl h⟩
      have x2 : ¬ ms = 20 := fun h => hm ⟨Or.inl r1, Or.inr h⟩
      rw [if_pos r1, if_neg x1, if_neg x2]
      rw [if_pos trivial, isE, obind_of, br_true, tell_F hq (by omega) (by omega), obind_of, ht1]
      rfl
    rw [if_neg r1]
    by_cases r2 : rate = 16000
    · have x1 : ¬ ms = 10 := fun h => hm ⟨Or.inr r2, Or.inl h⟩
      have x2 : ¬ ms = 20 := fun h => hm ⟨Or.inr r2, Or.inr h⟩
      rw [if_pos r2, if_neg x1, if_neg x2]
      rw [if_pos trivial, isE, obind_of, br_true, tell_F hq (by omega) (by omega), obind_of, ht1]
      rfl
    rw [if_neg r2]
    rw [if_pos trivial, isE, obind_of, br_true, tell_F hq (by omega) (by omega), obind_of, ht1]
    rfl
  have hm := Classical.not_not.1 hm
  have hs := RS.new_ok hb
  have hR := spreadf_F (N := 30000) hb hl hm was hs (by omega) (by omega)
  obtain ⟨eq', hV⟩ := rvoiced_F (N := 30000) hb hl hm was hs (by omega) (by omega) 0
  have hG := fr14_good hb hm was hs (by omega)
  have hok := (fr14_facts hb hm was hs (by omega)).1
  rw [RS.new_ct] at hR hV
  generalize fr14 b rate ms was (RS.new b) = f at hR hV hG hok
  obtain ⟨t0, t1⟩ := RS.ct_rg hok (by omega)
  have hq' := hok.q
  obtain ⟨m1, m2, m3, m4, m5, m6, m7, m8⟩ := may_facts hm
  have ho := ord14_le rate
  have l1 : f.two.length ≤ 20000 := by have := hG.tw.1; omega
  have l2 : f.gains.length ≤ 20000 := by have := hG.ga.1; omega
  have l3 : f.ltps.length ≤ 20000 := by
    have := hG.lt
    split at this
    · omega
    · rw [this]; simp
  have l4 : f.pulses.length ≤ 20000 := by
    have := hG.pu
    split at this
    · rw [this]; simp
    · omega
  have hI := is14_yes (N := 30000) (kind := f.kind) (one := f.one) (btw := f.btw) (fresh := f.fresh) (two := f.two) (gains := f.gains) (pulses := f.pulses) (l := f.ltps) l1 l2 l4 l3 (by omega)
  have hGd := (spgood_F (N := 30000) (by omega) (fresh := f.fresh) (show f.two.length ≤ 1000000 by omega) (show f.gains.length ≤ 1000000 by omega) (show f.ltps.length ≤ 1000000 by omega)).1 hG
  refine obind_step hR ?_
  simp only
  obtain ⟨rfl | rfl, rfl | rfl⟩ := hm
  · rw [if_pos rfl, if_pos rfl]
    rw [rnew_F hb hl (by omega), obind_of]
    simp only
    refine obind_step hV ?_
    simp only
    rw [if_pos trivial]
    refine obind_step hI ?_
    rw [br_true]
    refine obind_step (tell_F hq' t0 (by omega)) ?_
    refine obind_step (rtell_F hq' t0 (by omega) (by omega)) ?_
    rw [if_pos rfl]
    refine obind_step (bad_F hq' t0 (by omega) hl) ?_
    refine obind_step (rbad_F hq' t0 (by omega) hl (by omega)) ?_
    rw [beq_self_eq_true, br_true]
    refine obind_step hGd ?_
    rfl
  · rw [if_pos rfl, if_neg (by omega), if_pos rfl]
    rw [rnew_F hb hl (by omega), obind_of]
    simp only
    refine obind_step hV ?_
    simp only
    rw [if_pos trivial]
    refine obind_step hI ?_
    rw [br_true]
    refine obind_step (tell_F hq' t0 (by omega)) ?_
    refine obind_step (rtell_F hq' t0 (by omega) (by omega)) ?_
    rw [if_pos rfl]
    refine obind_step (bad_F hq' t0 (by omega) hl) ?_
    refine obind_step (rbad_F hq' t0 (by omega) hl (by omega)) ?_
    rw [beq_self_eq_true, br_true]
    refine obind_step hGd ?_
    rfl
  · rw [if_neg (by omega), if_pos rfl, if_pos rfl]
    rw [rnew_F hb hl (by omega), obind_of]
    simp only
    refine obind_step hV ?_
    simp only
    rw [if_pos trivial]
    refine obind_step hI ?_
    rw [br_true]
    refine obind_step (tell_F hq' t0 (by omega)) ?_
    refine obind_step (rtell_F hq' t0 (by omega) (by omega)) ?_
    rw [if_pos rfl]
    refine obind_step (bad_F hq' t0 (by omega) hl) ?_
    refine obind_step (rbad_F hq' t0 (by omega) hl (by omega)) ?_
    rw [beq_self_eq_true, br_true]
    refine obind_step hGd ?_
    rfl
  · rw [if_neg (by omega), if_pos rfl, if_neg (by omega), if_pos rfl]
    rw [rnew_F hb hl (by omega), obind_of]
    simp only
    refine obind_step hV ?_
    simp only
    rw [if_pos trivial]
    refine obind_step hI ?_
    rw [br_true]
    refine obind_step (tell_F hq' t0 (by omega)) ?_
    refine obind_step (rtell_F hq' t0 (by omega) (by omega)) ?_
    rw [if_pos rfl]
    refine obind_step (bad_F hq' t0 (by omega) hl) ?_
    refine obind_step (rbad_F hq' t0 (by omega) hl (by omega)) ?_
    rw [beq_self_eq_true, br_true]
    refine obind_step hGd ?_
    rfl
end Go.Pl
