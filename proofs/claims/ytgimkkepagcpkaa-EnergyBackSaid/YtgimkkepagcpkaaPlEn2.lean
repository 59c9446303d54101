/-
  Layer 19: what is written is read.
  Conditions: none.
-/
import Derived.Test.YtgimkkepagcpkaaPlEn
import Derived.Test.YtgimkkepagcpkaaPlLaw4
set_option linter.unusedSimpArgs false
set_option linter.unusedVariables false
namespace Go.Pl
open Go.Eng Go.Proofs

/-- n energies more are written. -/
def lwr (want was : List Int) (intra : Bool) : Nat → E → List Int → E × List Int
  | 0, e, o => (e, o)
  | n + 1, e, o => lwr want was intra n (e.la (cl (want.getD o.length 0) - xp o.length intra was o) 12000 8000) (o ++ [cl (xp o.length intra was o + lapV (cl (want.getD o.length 0) - xp o.length intra was o) 12000 8000)])

theorem lv_range {v : Int} (h0 : -100 ≤ v) (h1 : v ≤ 100) : -100 ≤ lapV v 12000 8000 ∧ lapV v 12000 8000 ≤ 100 := by
  obtain ⟨_, l2, l3⟩ := lap_again (fs := 12000) (decay := 8000) (v := v) (by omega) (by omega) (by omega) (by omega) (by omega)
  by_cases h : 0 ≤ v
  · have := l2 h; omega
  · have := l3 (by omega); omega

theorem wv_range (want was : List Int) (intra : Bool) (o : List Int) : -100 ≤ cl (want.getD o.length 0) - xp o.length intra was o ∧ cl (want.getD o.length 0) - xp o.length intra was o ≤ 100 := by
  have := cl_range (want.getD o.length 0)
  have := xp_range o.length intra was o
  omega

theorem E.la_ok' {e : E} (h : e.Ok) {v : Int} (h1 : v ≤ 100) : (e.la v 12000 8000).Ok := E.tk_ok h (la_place (by omega) (by omega) (by omega) (by omega) (by omega))
theorem E.la_same (e : E) (v fs d : Int) : (e.la v fs d).r = e.r ∧ (e.la v fs d).raw = e.raw ∧ e.k ≤ (e.la v fs d).k ∧ (e.la v fs d).k ≤ e.k + 4 := E.tk_same e _ _ _

theorem lwr_facts (want was : List Int) (intra : Bool) : ∀ (n : Nat) (e : E) (o : List Int), e.Ok →
    (lwr want was intra n e o).1.Ok ∧ (lwr want was intra n e o).1.r = e.r ∧ e.k ≤ (lwr want was intra n e o).1.k ∧ (lwr want was intra n e o).1.k ≤ e.k + 4 * n ∧ (lwr want was intra n e o).2.length = o.length + n ∧ (lwr want was intra n e o).2.take o.length = o
  | 0, e, o, h => ⟨h, rfl, by simp [lwr], by simp [lwr], by simp [lwr], by simp [lwr]⟩
  | n + 1, e, o, h => by
    have hv := wv_range want was intra o
    have hs := E.la_same e (cl (want.getD o.length 0) - xp o.length intra was o) 12000 8000
    have ih := lwr_facts want was intra n (e.la (cl (want.getD o.length 0) - xp o.length intra was o) 12000 8000) (o ++ [cl (xp o.length intra was o + lapV (cl (want.getD o.length 0) - xp o.length intra was o) 12000 8000)]) (E.la_ok' h hv.2)
    simp only [List.length_append, List.length_singleton] at ih
    obtain ⟨i1, i2, i3, i4, i5, i6⟩ := ih
    refine ⟨i1, by simp only [lwr]; rw [i2, hs.1], by simp only [lwr]; omega, by simp only [lwr]; omega, by simp only [lwr]; omega, ?_⟩
    simp only [lwr]
    have := congrArg (List.take o.length) i6
    rw [List.take_take, Nat.min_eq_left (by omega), List.take_left'] at this
    · exact this
    · rfl

/-- Each number of what was written. -/
theorem lwr_get (want was : List Int) (intra : Bool) : ∀ (n : Nat) (e : E) (o : List Int), e.Ok → ∀ i, o.length ≤ i → i < o.length + n →
    (lwr want was intra n e o).2.getD i 0 = cl (xp i intra was ((lwr want was intra n e o).2.take i) + lapV (cl (want.getD i 0) - xp i intra was ((lwr want was intra n e o).2.take i)) 12000 8000)
  | 0, e, o, h, i, h0, h1 => by omega
  | n + 1, e, o, h, i, h0, h1 => by
    have hv := wv_range want was intra o
    rcases Nat.lt_or_ge o.length i with hlt | hge
    · exact lwr_get want was intra n _ _ (E.la_ok' h hv.2) i (by simp only [List.length_append, List.length_singleton]; omega) (by simp only [List.length_append, List.length_singleton]; omega)
    · obtain rfl : i = o.length := by omega
      have f := lwr_facts want was intra (n + 1) e o h
      obtain ⟨_, _, _, _, f5, f6⟩ := f
      rw [f6]
      have g := (lwr_facts want was intra n (e.la (cl (want.getD o.length 0) - xp o.length intra was o) 12000 8000) (o ++ [cl (xp o.length intra was o + lapV (cl (want.getD o.length 0) - xp o.length intra was o) 12000 8000)]) (E.la_ok' h hv.2)).2.2.2.2.2
      simp only [List.length_append, List.length_singleton] at g
      have e1 : (lwr want was intra (n + 1) e o).2.getD o.length 0 = ((lwr want was intra (n + 1) e o).2.take (o.length + 1)).getD o.length 0 := by
        rw [List.getD_eq_getElem?_getD, List.getD_eq_getElem?_getD, List.getElem?_take_of_lt (by omega)]
      rw [e1]
      show (List.take (o.length + 1) (lwr want was intra n _ _).2).getD _ _ = _
      rw [g]
      simp [List.getD_eq_getElem?_getD]

section
variable {N : Nat}
theorem ewrite_loop {want was : List Int} (hw : was.length ≤ 40) (hl : want.length = was.length) {intra : Bool} (hN : 30000 ≤ N) : ∀ (nn d : Nat) (e : E) (o : List Int), e.Ok → e.r = 0 → e.k ≤ 4 * o.length → o.length + d = was.length → d < nn →
    Rc.ewrite.loop5 N nn was.length intra want was o.length e.val e.rng e.r e.count e.bits o e.told =
      some ((lwr want was intra d e o).1.val, (lwr want was intra d e o).1.rng, ((lwr want was intra d e o).1.r : Int), (lwr want was intra d e o).1.count, (lwr want was intra d e o).1.bits, (lwr want was intra d e o).2, (lwr want was intra d e o).1.told)
  | 0, d, e, o, _, _, _, _, h0 => by omega
  | nn + 1, d, e, o, h, hr, hk, hd, h0 => by
    unfold Rc.ewrite.loop5
    simp only [br_dec, chkI_same, chkB_same, chkL_same]
    rcases d with _ | d
    · rw [if_neg (by omega)]; rfl
    · have hv := wv_range want was intra o
      have hx := xp_range o.length intra was o
      have hc := cl_range (want.getD o.length 0)
      have hlv := lv_range hv.1 hv.2
      have hs := E.la_same e (cl (want.getD o.length 0) - xp o.length intra was o) 12000 8000
      have low : e.Low := ⟨by omega, by omega⟩
      rw [if_pos (by omega), eexpect_F (by omega), obind_of, chk_pos (by omega), eclamp_F, obind_of, Int.toNat_natCast, i64 (x := cl (want.getD o.length 0) - xp o.length intra was o) (by omega) (by omega), elaplace_F h (low.lim hN) (by omega) _ _ _ (by omega), if_pos (by omega), obind_of]
      simp only
      rw [eclamp_F, obind_of, chk_pos (by simp only [List.length_singleton]; omega), i64 (x := xp o.length intra was o + lapV (cl (want.getD o.length 0) - xp o.length intra was o) 12000 8000) (by omega) (by omega), i64 (x := (o.length : Int) + 1) (by omega) (by omega)]
      have ih := ewrite_loop hw hl (intra := intra) hN nn d (e.la (cl (want.getD o.length 0) - xp o.length intra was o) 12000 8000) (o ++ [cl (xp o.length intra was o + lapV (cl (want.getD o.length 0) - xp o.length intra was o) 12000 8000)]) (E.la_ok' h hv.2) (by rw [hs.1, hr]) (by simp only [List.length_append, List.length_singleton]; omega) (by simp only [List.length_append, List.length_singleton]; omega) (by omega)
      rw [show (((o ++ [cl (xp o.length intra was o + lapV (cl (want.getD o.length 0) - xp o.length intra was o) 12000 8000)]).length : Nat) : Int) = (o.length : Int) + 1 by simp only [List.length_append, List.length_singleton]; omega] at ih
      have hb : (e.la (cl (want.getD o.length 0) - xp o.length intra was o) 12000 8000).bits = e.bits := by unfold E.bits; rw [hs.1, hs.2.1]
      rw [hb, hs.1] at ih
      exact ih

theorem ewrite_F (want was : List Int) (intra : Bool) (hN : 30000 ≤ N) :
    Rc.ewrite.F N E.new.val E.new.rng E.new.r E.new.count intra want was E.new.told E.new.bits =
      some (if was.length < 1 ∨ was.length > 40 ∨ want.length ≠ was.length then (1, E.new.val, E.new.rng, (E.new.r : Int), E.new.count, E.new.bits, [], E.new.told) else
        (0, (lwr want was intra was.length E.new []).1.val, (lwr want was intra was.length E.new []).1.rng, ((lwr want was intra was.length E.new []).1.r : Int), (lwr want was intra was.length E.new []).1.count, (lwr want was intra was.length E.new []).1.bits, (lwr want was intra was.length E.new []).2, (lwr want was intra was.length E.new []).1.told)) := by
  unfold Rc.ewrite.F
  simp only [br_dec, br_bne]
  by_cases c1 : was.length < 1
  · rw [if_pos (by omega), if_pos (Or.inl c1)]
  by_cases c2 : was.length > 40
  · rw [if_neg (by omega), if_pos (by omega), if_pos (Or.inr (Or.inl c2))]
  by_cases c3 : want.length ≠ was.length
  · rw [if_neg (by omega), if_neg (by omega), if_neg (by omega), if_pos (Or.inr (Or.inr c3))]
  rw [if_neg (by omega), if_neg (by omega), if_pos (by omega), if_neg (by omega)]
  have := ewrite_loop (want := want) (was := was) (intra := intra) (by omega) (by omega) hN N was.length E.new [] E.new_ok rfl (by decide) (by simp) (by omega)
  rw [show (([] : List Int).length : Int) = 0 from rfl] at this
  rw [this, obind_of]
end

/-- A reader reads what was written. -/
theorem lwr_back {b : List Int} (hb : Bytes b) (want was : List Int) (intra : Bool) : ∀ (n : Nat) (e : E) (o : List Int), e.Ok → (lwr want was intra n e o).1.Fit b →
    e.Fit b ∧ lrd b was intra n (e.rd b) (33 + 8 * e.k) o = ((lwr want was intra n e o).1.rd b, 33 + 8 * ((lwr want was intra n e o).1.k : Int), (lwr want was intra n e o).2)
  | 0, e, o, h, hf => ⟨hf, rfl⟩
  | n + 1, e, o, h, hf => by
    have hv := wv_range want was intra o
    have hs := E.la_same e (cl (want.getD o.length 0) - xp o.length intra was o) 12000 8000
    obtain ⟨g1, g2⟩ := lwr_back hb want was intra n (e.la (cl (want.getD o.length 0) - xp o.length intra was o) 12000 8000) (o ++ [cl (xp o.length intra was o + lapV (cl (want.getD o.length 0) - xp o.length intra was o) 12000 8000)]) (E.la_ok' h hv.2) hf
    obtain ⟨k1, k2, k3⟩ := E.la_back hb h (v := cl (want.getD o.length 0) - xp o.length intra was o) (fs := 12000) (decay := 8000) (by omega) (by omega) (by omega) (by omega) (by omega) g1
    refine ⟨k1, ?_⟩
    simp only [lrd, lwr]
    have hlv : lv (e.rd b) = lapV (cl (want.getD o.length 0) - xp o.length intra was o) 12000 8000 := k2
    have hct : ct (33 + 8 * (e.k : Int)) (e.rd b) ((e.rd b).la b 12000 8000) = 33 + 8 * ((e.la (cl (want.getD o.length 0) - xp o.length intra was o) 12000 8000).k : Int) := by
      rw [← k3]
      unfold ct
      show _ + 8 * ((((e.la (cl (want.getD o.length 0) - xp o.length intra was o) 12000 8000).k + 4) - (e.k + 4) : Nat) : Int) = _
      omega
    rw [hlv, hct, ← k3]
    exact g2

theorem lap_small : ∀ i : Fin 25, lapV ((i.val : Int) - 12) 12000 8000 = (i.val : Int) - 12 := by decide +kernel
theorem lap_just {v : Int} (h0 : -12 ≤ v) (h1 : v ≤ 12) : lapV v 12000 8000 = v := by
  have := lap_small ⟨(v + 12).toNat, by omega⟩
  simp only at this
  rw [show ((v + 12).toNat : Int) - 12 = v by omega] at this
  exact this

section
variable {N : Nat}
theorem back_loop {want0 was0 : List Int} {intra0 : Bool} {want was l : List Int} {intra : Bool} (hl : want.length = was.length) (hw : was.length ≤ 40) (f5 : l.length = was.length)
    (hg : ∀ k, k < was.length → l.getD k 0 = cl (xp k intra was (l.take k) + lapV (cl (want.getD k 0) - xp k intra was (l.take k)) 12000 8000)) (s : Bool) : ∀ (nn k : Nat), k ≤ was.length → was.length - k < nn →
    ∃ r, Rc.energyBack.loop16 N want0 was0 intra0 nn intra want was l k s = some (.inl r)
  | 0, k, _, h => by omega
  | nn + 1, k, hk, h => by
    unfold Rc.energyBack.loop16
    simp only [br_dec, br_bne, chkL_same, chkB_same]
    by_cases c : k < was.length
    · have hgk := hg k c
      have hx := xp_range k intra was (l.take k)
      have ih : ∃ r, Rc.energyBack.loop16 N want0 was0 intra0 nn intra want was l (IntKind.i64.wrap (↑k + 1)) s = some (.inl r) := by
        rw [i64 (by omega) (by omega)]
        exact back_loop hl hw f5 hg s nn (k + 1) (by omega) (by omega)
      rw [if_pos (by omega), chk_pos (by omega), Int.toNat_natCast, List.drop_zero, Nat.sub_zero, rexpect_F (by omega), obind_of, chk_pos (by omega)]
      by_cases c1 : want.getD k 0 < 0
      · rw [if_neg (by omega)]; exact ih
      rw [if_pos (by omega), chk_pos (by omega)]
      by_cases c2 : want.getD k 0 > 100
      · rw [if_neg (by omega)]; exact ih
      rw [if_pos (by omega), chk_pos (by omega), i64 (x := want.getD k 0 - xp k intra was (l.take k)) (by omega) (by omega)]
      by_cases c3 : want.getD k 0 - xp k intra was (l.take k) > 12
      · rw [if_neg (by omega)]; exact ih
      rw [if_pos (by omega), chk_pos (by omega), i64 (x := xp k intra was (l.take k) - want.getD k 0) (by omega) (by omega)]
      by_cases c4 : xp k intra was (l.take k) - want.getD k 0 > 12
      · rw [if_neg (by omega)]; exact ih
      have e1 : cl (want.getD k 0) = want.getD k 0 := by unfold cl; rw [if_neg c1, if_neg c2]
      rw [if_pos (by omega), chk_pos (by omega), chk_pos (by omega), hgk, e1, lap_just (by omega) (by omega), show xp k intra was (l.take k) + (want.getD k 0 - xp k intra was (l.take k)) = want.getD k 0 by omega, e1, if_pos rfl]
      exact ih
    · rw [if_neg (by omega)]; exact ⟨_, rfl⟩

theorem energyBack_pure (want was : List Int) (intra : Bool) : ∃ N, Rc.energyBack.F N want was intra = some true := by
  refine ⟨30000, ?_⟩
  unfold Rc.energyBack.F
  rw [awake19_F (by omega), obind_of]
  simp only [br_not, if_true, br_dec, br_beq, br_bne, List.nil_append, List.length_nil, Nat.zero_add]
  by_cases k1 : want.length > 100
  · rw [if_pos (by omega)]
  by_cases k2 : was.length > 100
  · rw [if_neg (by omega), if_pos (by omega)]
  rw [if_neg (by omega), if_neg (by omega), enew_F, obind_of]
  simp only
  rw [chk_pos (by omega), chk_pos (by omega), ewrite_F want was intra (by omega), obind_of]
  have e0 : ((0 : Nat) : Int) = 0 := rfl
  have hnew : ∀ raw told : List Int, ∀ val rb : Int, Rc.etell.F 30000 val E.new.rng rb E.new.count told raw = some 1 := fun raw told val rb => by
    rw [etell_F E.new_ok (E.new_low.lim (by omega)), E.new_tell]
  by_cases k3 : was.length < 1
  · rw [if_pos (Or.inl k3), if_pos (by omega)]
    simp only [List.length_nil, if_true]
    rw [if_pos e0, hnew, obind_of]; rfl
  by_cases k4 : was.length > 40
  · rw [if_pos (Or.inr (Or.inl k4)), if_neg (by omega), if_pos (by omega)]
    simp only [List.length_nil, if_true]
    rw [if_pos e0, hnew, obind_of]; rfl
  by_cases k5 : want.length ≠ was.length
  · rw [if_pos (Or.inr (Or.inr k5)), if_neg (by omega), if_neg (by omega), if_neg (by omega)]
    simp only [List.length_nil, if_true]
    rw [if_pos e0, hnew, obind_of]; rfl
  have n1 : ¬ (was.length < 1 ∨ was.length > 40 ∨ want.length ≠ was.length) := by omega
  rw [if_neg n1, if_neg (by omega), if_neg (by omega), if_pos (by omega)]
  obtain ⟨f1, f2, f3, f4, f5, _⟩ := lwr_facts want was intra was.length E.new [] E.new_ok
  have hg := lwr_get want was intra was.length E.new [] E.new_ok
  have hback := fun (b : List Int) (hb : Bytes b) => lwr_back hb want was intra was.length E.new [] E.new_ok
  have hk0 : E.new.k = 0 := rfl
  have hr0 : E.new.r = 0 := rfl
  rw [hk0] at f4
  rw [hr0] at f2
  generalize lwr want was intra was.length E.new [] = X at f1 f2 f3 f4 f5 hg hback ⊢
  obtain ⟨e, l⟩ := X
  simp only at f1 f2 f3 f4 f5 hg hback ⊢
  have low : e.Low := ⟨by omega, by omega⟩
  rw [edone_F f1 (low.lim (by omega)) (by omega), obind_of, if_neg (show ¬ ((1275 : Int) < 0 ∨ (1275 : Int) > 1275) by omega)]
  simp only [if_true]
  by_cases k6 : e.tell > 8 * 1275
  · rw [if_pos k6]; simp
  rw [if_neg k6]
  simp only [if_true]
  have hfit := (E.out_fit f1 (n := 1275) (by omega)).2.2.2.2
  have hb : Bytes (tb 1275 (e.out 1275)) := tb_bytes _ _
  have hlen : (tb 1275 (e.out 1275)).length = 1275 := tb_len _ _
  rw [show (1275 : Int).toNat = 1275 from rfl]
  generalize tb 1275 (e.out 1275) = b at hfit hb hlen ⊢
  obtain ⟨g1, g2⟩ := hback b hb hfit
  rw [E.new_rd hb, hk0] at g2
  have hcn : cnew b = 33 + 8 * ((0 : Nat) : Int) := by rw [cnew_eq, (Q.new_rng b).2]; rfl
  rw [rnew_F hb (by omega) (by omega), obind_of]
  simp only
  obtain ⟨eq', he⟩ := energies_F (N := 30000) (back := 0) (wait := 0) (waiting := 0) (eq := 0) (bad := false) hb (by omega) (Q.new_ok hb) (was := was) (by omega) intra (c := cnew b) (by rw [hcn]; omega) (by rw [hcn]; omega) (by omega)
  rw [he, obind_of]
  simp only
  rw [hcn, g2]
  simp only
  simp only [List.length_nil, Nat.zero_add] at f5
  rw [ints19_F _ (by omega) (by omega), obind_of, if_pos rfl, rtell_F (q := e.rd b) (E.rd_ok hb f1 hfit.i) (by omega) (by omega) (by omega), obind_of, etell_F f1 (low.lim (by omega)), obind_of, if_pos]
  · obtain ⟨r, hr⟩ := back_loop (N := 30000) (want0 := want) (was0 := was) (intra0 := intra) (want := want) (was := was) (l := l) (intra := intra) (by omega) (by omega) f5 (fun k hk => hg k (by simp) (by simpa using hk)) false 30000 0 (by omega) (by omega)
    rw [e0] at hr
    rw [hr, osum_inl]
  · unfold Q.tell E.tell E.count E.rd
    simp only
    rw [f2]
    omega
end
end Go.Pl
