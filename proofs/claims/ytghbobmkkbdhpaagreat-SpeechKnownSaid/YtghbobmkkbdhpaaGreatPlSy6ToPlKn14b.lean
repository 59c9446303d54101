/-
  Layer 14: a Fresh frame without pulses is silence.
  Conditions: none.
-/
import Derived.Test.YtghbobmkkbdhpaaGreatPlPuToPlSy5
import Derived.Test.YtghbobmkkbdhpaaGreatPlKnown14
set_option linter.unusedVariables false
set_option linter.unusedSimpArgs false
namespace Go.Pl
open Go.Eng Go.Proofs
section
variable {N : Nat}
theorem syreset_F {v : List Int} (hv : v.length = 352) : Rc.syreset.F N v = some (List.replicate 352 0) := by
  unfold Rc.syreset.F
  rw [chk_pos (by omega), List.drop_eq_nil_of_le (by omega), List.append_nil]
  rfl
theorem plreset_loop {ord : Int} {rate gain : Int} {voice : List Int} {len : Nat} (ho : 0 ≤ ord ∧ ord ≤ 100) (hl : len ≤ 1000) : ∀ (nn k : Nat) (l : List Int), k ≤ len → l.length = len → len - k < nn → Sat (Rc.plreset.loop4 N nn ord (len : Int) rate gain voice (k : Int) l) fun r => r.length = len
  | 0, k, l, _, _, h => by omega
  | nn + 1, k, l, hk, h0, h => by
    unfold Rc.plreset.loop4
    simp only [br_dec, chkI_same, chkL_same]
    by_cases c : k < len
    · rw [if_pos (by omega), i64 (x := ord + 1) (by omega) (by omega), chk_pos (by omega), chk_pos (by omega), i64 (x := (k : Int) + 1) (by omega) (by omega)]
      exact plreset_loop ho hl nn (k + 1) _ (by omega) (by rw [List.length_set]; exact h0) (by omega)
    · rw [if_neg (by omega)]; exact Sat.some h0
theorem plreset_T (hN : 30000 ≤ N) {rate gain : Int} {voice ahead : List Int} (hv : voice.length = 352) : Sat (Rc.plreset.F N rate gain voice ahead) fun r => r.1 = 20 ∧ r.2.1 = List.replicate 352 0 ∧ r.2.2.length = ord14 rate := by
  have ho := ord14_le rate
  unfold Rc.plreset.F
  rw [syreset_F hv, obind_of, torder_F, obind_of]
  refine Sat.chk ⟨by omega, Int.le_refl _, Int.ofNat_le.2 (Nat.le_trans ho (by decide))⟩ ?_
  simp only [chkI_same, Int.toNat_natCast]
  have hr : (List.replicate (ord14 rate) (0 : Int)).length = ord14 rate := by simp
  rw [hr]
  exact Sat.obind (plreset_loop (len := ord14 rate) (ord := (ord14 rate : Int)) (by omega) (by omega) N 0 _ (Nat.zero_le _) hr (by omega)) fun r h => Sat.some ⟨rfl, rfl, h⟩
theorem sypcm_zero (hN : 30000 ≤ N) (n : Nat) (hn : n ≤ 1000) : Rc.sypcm.F N (List.replicate n 0) = some (List.replicate n 0) := by
  have e4 : ∀ x y, Rc.fmul.F N x y 4 = some (ml x y 4) := fun x y => fmul_F (s := 4) (by omega) (by omega) x y
  have hs : Rc.fsat.F N 0 = some 0 := by
    unfold Rc.fsat.F
    rw [clamp_F (by omega), obind_of]
    rfl
  have loop : ∀ (nn k : Nat) (l : List Int), k ≤ n → l = List.replicate n 0 → n - k < nn → Rc.sypcm.loop3 N nn (n : Int) (List.replicate n 0) (k : Int) l = some (List.replicate n 0) := by
    intro nn
    induction nn with
    | zero => intro k l _ _ h; omega
    | succ nn ih =>
      intro k l hk hl h
      unfold Rc.sypcm.loop3
      simp only [br_dec, chkI_same, chkL_same]
      by_cases c : k < n
      · rw [if_pos (by omega), chk_pos (by rw [List.length_replicate]; omega), zeros_getD, e4, obind_of, ml_zero_left _ (by omega), hs, obind_of, chk_pos (by rw [hl, List.length_replicate]; omega), i64 (x := (k : Int) + 1) (by omega) (by omega)]
        refine ih (k + 1) _ (by omega) ?_ (by omega)
        rw [hl, Int.toNat_natCast]
        apply List.ext_getElem?
        intro i
        rw [List.getElem?_set]
        split
        · rename_i he
          subst he
          rw [List.length_replicate, if_pos c, List.getElem?_replicate, if_pos c]
        · rfl
      · rw [if_neg (by omega), hl]
  unfold Rc.sypcm.F
  rw [List.length_replicate, chk_pos (by omega), Int.toNat_natCast]
  refine obind_step (loop N 0 _ (Nat.zero_le _) rfl (by omega)) ?_
  rfl
theorem play_loop (hN : 30000 ≤ N) {n : Nat} (n0 : 1 ≤ n) (n1 : n ≤ 100) {rate one btw : Int} {fresh : Bool} {two gains pulses a1 a2 : List Int} {ltps : List (List Int)} {ahead : List Int}
    (hg : gains.length ≤ 100) (f1 : a1.length ≤ 32) (x1 : ∀ x ∈ a1, -131072 ≤ x ∧ x ≤ 131072) (f2 : a2.length ≤ 32) (x2 : ∀ x ∈ a2, -131072 ≤ x ∧ x ≤ 131072) : ∀ (nn k : Nat) (gain : Int), k ≤ gains.length → gains.length - k < nn →
    Rc.plplay.loop12 N nn (n : Int) (gains.length : Int) rate 0 one btw fresh gains two gains pulses ltps (k : Int) gain (List.replicate 352 0) a1 a2 (List.replicate (n * k) 0) ahead =
      some ((gains.drop k).getLastD gain, List.replicate 352 0, a1, a2, List.replicate (n * gains.length) 0, ahead)
  | 0, k, gain, _, h => by omega
  | nn + 1, k, gain, hk, h => by
    unfold Rc.plplay.loop12
    simp only [br_dec, br_bne, br_beq, chkI_same, chkL_same, chkB_same, chkR_same]
    by_cases c : k < gains.length
    · obtain ⟨z0, z1⟩ := gz_range (c63_range (gains.getD k 0)).1 (c63_range (gains.getD k 0)).2
      have hrun : ∀ a : List Int, a.length ≤ 32 → (∀ x ∈ a, -131072 ≤ x ∧ x ≤ 131072) → Rc.syrun.F N (gz (c63 (gains.getD k 0))) 0 0 0 0 0 0 (List.replicate n 0) a (List.replicate 352 0) = some (0, List.replicate 352 0, List.replicate n 0) := by
        intro a ha hx
        rw [syrun_F hN ⟨by rw [List.length_replicate]; omega, by rw [List.length_replicate]; omega, fun x hx => by rw [List.eq_of_mem_replicate hx]; omega, z0, by omega, Or.inl rfl, by omega, by omega, by omega, by omega, by omega, ha, hx⟩ (by rw [List.length_replicate]), run_zero, List.nil_append]
      have ih := play_loop (rate := rate) (one := one) (btw := btw) (fresh := fresh) (two := two) (pulses := pulses) (ltps := ltps) (ahead := ahead) hN n0 n1 hg f1 x1 f2 x2 nn (k + 1) (gains.getD k 0) (by omega) (by omega)
      have hlen : n * k ≤ 100 * 100 := Nat.mul_le_mul n1 (by omega)
      have hk1 : n * (k + 1) = n * k + n := Nat.mul_succ n k
      have e1 : List.replicate (n * (k + 1)) (0 : Int) = List.replicate (n * k) 0 ++ List.replicate n 0 := by rw [hk1, List.replicate_append_replicate]
      have e2 : (gains.drop (k + 1)).getLastD (gains.getD k 0) = (gains.drop k).getLastD gain := by rw [drop_cons c, List.getLastD_cons]
      rw [e1, e2] at ih
      rw [if_pos (by omega), chk_pos (by omega), chk_pos (by omega), gloud_F (by omega), obind_of, Int.toNat_natCast, Int.toNat_natCast]
      have z : ((0 : Int) = 2) = False := by decide
      simp only [if_true, z, if_false]
      rw [hrun a1 f1 x1, hrun a2 f2 x2]
      simp only [obind_of]
      have hc : (List.replicate (n * k) (0 : Int)).length + (List.replicate n (0 : Int)).length ≤ 17592186043904 := by rw [List.length_replicate, List.length_replicate]; omega
      rw [chk_pos hc, i64 (x := (k : Int) + 1) (by omega) (by omega)]
      have fin : ∀ (P : Prop) [Decidable P] (x : Option Rc.plplay.loop12.R), (if P then x else x) = x := fun P _ x => by split <;> rfl
      rw [fin]
      exact ih
    · have hkk : k = gains.length := by omega
      rw [if_neg (by omega), List.drop_eq_nil_of_le (by omega), hkk]
      rfl
theorem play_silent (hN : 30000 ≤ N) {rate ms one btw gain : Int} {two gains voice ahead : List Int} (hg : GoodF rate ms 0 one btw two gains [] []) (hv : voice.length = 352) :
    ∃ l, Rc.plplay.F N ms 0 one btw rate gain true two gains [] voice ahead [] = some (0, gains.getLastD 20, List.replicate 352 0, List.replicate (16 * blk14 rate ms) 0, l) := by
  obtain ⟨m1, m2, m3, m4, m5, m6, m7, m8⟩ := may_facts hg.may
  have ho := ord14_le rate
  obtain ⟨r1, e1, p1, p2, p3⟩ := plreset_T (N := N) hN (rate := rate) (gain := gain) (ahead := ahead) hv
  obtain ⟨r3, e3, p4⟩ := ldecode_T (N := N) hN hg.may.1 hg.on.1 hg.on.2 hg.tw.1 hg.tw.2
  obtain ⟨r4, e4, p5⟩ := lbetween_T (N := N) hN (w := btw) (a := r1.2.2) (b := r3.2) (by omega) (by omega) hg.bt.1 hg.bt.2
  have hord : ord14 rate = 10 ∨ ord14 rate = 16 := by rcases hg.may.1 with rfl | rfl <;> decide
  obtain ⟨r5, e5, p6, p7⟩ := lfrom_T (N := N) hN (l := r4.2) (by omega)
  obtain ⟨r6, e6, p8, p9⟩ := lfrom_T (N := N) hN (l := r3.2) (by omega)
  have hgd := (spgood_F (N := N) hN (fresh := true) (show ([] : List (List Int)).length ≤ 1000000 by simp)).1 hg
  obtain ⟨w, hw, w0, w1, hw2⟩ : ∃ w : Nat, rate.tdiv 200 = (w : Int) ∧ 1 ≤ w ∧ w ≤ 100 ∧ w * gains.length = 16 * blk14 rate ms := by
    have hgl := hg.ga.1
    rcases hg.may with ⟨rfl | rfl, rfl | rfl⟩
    · exact ⟨40, by decide, by decide, by decide, by rw [hgl]; decide⟩
    · exact ⟨40, by decide, by decide, by decide, by rw [hgl]; decide⟩
    · exact ⟨80, by decide, by decide, by decide, by rw [hgl]; decide⟩
    · exact ⟨80, by decide, by decide, by decide, by rw [hgl]; decide⟩
  have hgl := hg.ga.1
  refine ⟨r3.2, ?_⟩
  unfold Rc.plplay.F
  rw [hgd, obind_of, br_not, if_pos rfl, br_true, e1, obind_of, torder_F, obind_of, e3, obind_of]
  simp only [chkI_same, chkL_same]
  rw [e4, obind_of, e5, obind_of, e6, obind_of, hw, i64 (x := (w : Int)) (by omega) (by omega), p1, p2]
  have hl := play_loop (N := N) (rate := rate) (one := one) (btw := btw) (fresh := true) (two := two) (pulses := []) (ltps := []) (ahead := r1.2.2) hN w0 w1 (gains := gains) (by omega) (a1 := r5.2) (by omega) p7 (a2 := r6.2) (by omega) p9 N 0 20 (Nat.zero_le _) (by omega)
  rw [Nat.mul_zero] at hl
  refine obind_step hl ?_
  simp only
  rw [hw2, sypcm_zero hN _ (by omega), obind_of, List.drop_zero]
end
end Go.Pl
/-
  Layer 14: SpeechSilent.
  Conditions: none.
-/
namespace Go.Pl
open Go.Eng Go.Proofs
end Go.Pl
/-
  Layer 14: SpeechKnown: the examples of the chapter, by counting through.
  Conditions: none.
-/
namespace Go.Pl
open Go.Eng Go.Proofs
set_option maxRecDepth 100000
def kl0 : List Int := [1, 0, 0, 0, 0, 0, 0, 0, 0, 0, 0, 0, 0, 0, 0, 0, 0, 0, 0, 0, 0, 0, 0, 0, 0, 0, 0, 0, 0, 0, 0, 0, 0, 0, 0, 0, 0, 0, 0, 0, 0, 0, 0, 0, 0, 0, 0, 0, 0, 0, 0, 0, 0, 0, 0, 0, 0, 0, 0, 0, 0, 0, 0, 0, 0, 0, 0, 0, 0, 0, 0, 0, 0, 0, 0, 0, 0, 0, 0, 0]
def kl2 : List Int := [0, 0, 0, 0, 0, 0, 0, 0, 0, 0, 0, 0, 0, 0, 0, 0, 0, 0, 0, 0, 0, 0, 0, 0, 0, 0, 0, 0, 0, 0, 0, 0, 0, 0, 0, 0, 0, 0, 0, 0, 0, 0, 0, 0, 0, 0, 0, 0, 0, 0, 0, 0, 0, 0, 0, 0, 0, 0, 0, 0, 0, 0, 0, 0, 0, 0, 0, 0, 0, 0, 0, 0, 0, 0, 0, 0, 0, 0, 0, 0, 0, 0, 0, 0, 0, 0, 0, 0, 0, 0, 0, 0, 0, 0, 0, 0, 0, 0, 0, 0, 0, 0, 0, 0, 0, 0, 0, 0, 0, 0, 0, 0, 0, 0, 0, 0, 0, 0, 0, 0, 0, 0, 0, 0, 0, 0, 0, 0, 0, 0, 0, 0, 0, 0, 0, 0, 0, 0, 0, 0, 0, 0, 0, 0, 0, 0, 0, 0, 0, 0, 0, 0, 0, 0, 0, 0, 0, 0, 0, 0, 0, 0, 0, 0, 0, 0, 0, 0, 0, 0, 0, 0, 0, 0, 0, 0, 0, 0, 0, 0, 0, 0, 0, 0, 0, 0, 0, 0, 0, 0, 0, 0, 0, 0, 0, 0, 0, 0, 0, 0, 0, 0, 0, 0, 0, 0, 0, 0, 0, 0, 0, 0, 0, 0, 0, 0, 0, 0, 0, 0, 0, 0, 0, 0, 0, 0, 0, 0, 0, 0, 0, 0, 0, 0, 0, 0, 0, 0, 0, 0, 0, 0, 0, 0, 0, 0, 0, 0, 0, 0, 0, 0, 0, 0, 0, 0, 0, 0, 0, 0, 0, 0, 0, 0, 0, 0, 0, 0, 0, 0, 0, 0, 0, 0, 0, 0, 0, 0, 0, 0, 0, 0, 0, 0, 0, 0, 0, 0, 0, 0, 0, 0, 0, 0, 0, 0, 0, 0, 0, 0, 0, 0, 0, 0, 0, 0, 0, 0, 0, 0, 0, 0, 0, 0, 0, 0, 0, 0, 0, 0, 0, 0, 0, 0, 0, 0, 0, 0, 0, 0, 0, 0, 0, 0, 0, 0, 0, 0, 0, 0, 0, 0, 0, 0, 0, 0, 0, 0, 0, 0, 0, 0]
theorem k_enew (N : Nat) : Rc.enew.F (N + 3000)  = some ((0 : Int), (2147483648 : Int), (0 : Int), (33 : Int), ([] : List Int), ([] : List Int)) := by kernel_rfl
theorem k_plain (N : Nat) : Rc.plain14.F (N + 3000)  = some ((1 : Int), (0 : Int), (0 : Int), true, ([0, 0, 0, 0, 0, 0, 0, 0, 0, 0] : List Int), ([30, 30] : List Int), kl0, ([] : List (List Int))) := by kernel_rfl
theorem k_order (N : Nat) : Rc.torder.F (N + 3000) (8000 : Int) = some (10 : Int) := by kernel_rfl
theorem k_syn (N : Nat) : Rc.synew.F (N + 3000)  = some kl2 := by kernel_rfl
theorem k_reset (N : Nat) : Rc.plreset.F (N + 3000) (8000 : Int) (0 : Int) kl2 ([] : List Int) = some ((20 : Int), kl2, ([2978, 5957, 8936, 11915, 14894, 17873, 20852, 23831, 26810, 29789] : List Int)) := by kernel_rfl
theorem k_order24 (N : Nat) : Rc.torder.F (N + 3000) (24000 : Int) = some (0 : Int) := by kernel_rfl
theorem k_new0 (N : Nat) : Rc.new.F (N + 3000) ([] : List Int) = some ((2147483648 : Int), (2147483647 : Int), (0 : Int), (0 : Int), (0 : Int), (0 : Int), (0 : Int), (33 : Int), false, ([] : List Int)) := by kernel_rfl
theorem k_read0 (N : Nat) : Rc.spreadf.F (N + 3000) (8000 : Int) (15 : Int) (0 : Int) (2147483648 : Int) (2147483647 : Int) (0 : Int) (0 : Int) (0 : Int) (0 : Int) (0 : Int) (33 : Int) false ([] : List Int) = some ((0 : Int), (0 : Int), (0 : Int), (1 : Int), (2147483648 : Int), (2147483647 : Int), (0 : Int), (0 : Int), (0 : Int), (0 : Int), (0 : Int), (33 : Int), false, false, ([] : List Int), ([] : List Int), ([] : List Int), ([] : List (List Int))) := by kernel_rfl
theorem k_write0 (N : Nat) : Rc.spwritef.F (N + 3000) (8000 : Int) (10 : Int) (0 : Int) (0 : Int) (0 : Int) (0 : Int) (0 : Int) (2147483648 : Int) (0 : Int) (33 : Int) false ([] : List Int) ([] : List Int) ([] : List Int) ([] : List Int) ([] : List Int) ([] : List (List Int)) = some ((0 : Int), (0 : Int), (0 : Int), (1 : Int), (0 : Int), (2147483648 : Int), (0 : Int), (33 : Int), false, ([] : List Int), ([] : List Int), ([] : List Int), ([] : List Int), ([] : List Int), ([] : List (List Int))) := by kernel_rfl
theorem k_tell0 (N : Nat) : Rc.etell.F (N + 3000) (0 : Int) (2147483648 : Int) (0 : Int) (33 : Int) ([] : List Int) ([] : List Int) = some (1 : Int) := by kernel_rfl
theorem k_play0 (N : Nat) : Rc.plplay.F (N + 3000) (10 : Int) (0 : Int) (0 : Int) (0 : Int) (8000 : Int) (20 : Int) false ([] : List Int) ([] : List Int) ([] : List Int) kl2 ([2978, 5957, 8936, 11915, 14894, 17873, 20852, 23831, 26810, 29789] : List Int) ([] : List (List Int)) = some ((1 : Int), (20 : Int), kl2, ([] : List Int), ([2978, 5957, 8936, 11915, 14894, 17873, 20852, 23831, 26810, 29789] : List Int)) := by kernel_rfl
theorem br_t {Y : Type} {c : Bool} {t e r : Option Y} (h : c = true) (h2 : t = r) : br c t e = r := by rw [h]; exact h2
theorem br_f {Y : Type} {c : Bool} {t e r : Option Y} (h : c = false) (h2 : e = r) : br c t e = r := by rw [h]; exact h2
theorem goodK : GoodF 8000 10 0 0 0 [0, 0, 0, 0, 0, 0, 0, 0, 0, 0] [30, 30] [] [] :=
  ⟨⟨Or.inl rfl, Or.inl rfl⟩, by decide, by decide, ⟨rfl, by decide⟩, by decide, ⟨rfl, by decide⟩, by rw [if_neg (by decide)], by rw [if_pos rfl]⟩
theorem speechKnown_pure : ∃ N, Rc.speechKnown.F N = some true := by
  refine ⟨27000 + 3000, ?_⟩
  obtain ⟨l, hp⟩ := play_silent (N := 27000 + 3000) (by omega) goodK (gain := 20) (voice := kl2) (ahead := [2978, 5957, 8936, 11915, 14894, 17873, 20852, 23831, 26810, 29789]) (by decide +kernel)
  unfold Rc.speechKnown.F
  refine obind_step (awake14_F (N := 27000 + 3000) (by omega)) ?_
  refine br_f rfl ?_
  refine obind_step (k_order24 27000) ?_
  refine br_t rfl ?_
  refine obind_step (k_new0 27000) ?_
  refine obind_step (k_read0 27000) ?_
  refine obind_step (k_enew 27000) ?_
  refine obind_step (k_write0 27000) ?_
  refine obind_step (k_order 27000) ?_
  refine br_f rfl ?_
  refine obind_step (k_syn 27000) ?_
  refine obind_step (k_reset 27000) ?_
  refine obind_step (k_play0 27000) ?_
  refine obind_step (k_plain 27000) ?_
  refine obind_step hp ?_
  refine br_t rfl ?_
  refine br_t rfl ?_
  refine obind_step (k_tell0 27000) ?_
  refine br_t rfl ?_
  refine br_t rfl ?_
  refine br_t rfl ?_
  exact obind_step (same14_F _ _ (by rw [List.length_replicate]; decide +kernel) (by rw [List.length_replicate]; decide +kernel)) (congrArg some (decide_eq_true (show List.replicate (16 * blk14 8000 10) (0 : Int) = List.replicate 80 0 by rw [show 16 * blk14 8000 10 = 80 from by decide])))
end Go.Pl
