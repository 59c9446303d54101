/-
  Chapter 4's statements in plain words: writings; Tell never falls; Laplace's numbers; bits alone.
  Conditions: none.
-/
import Derived.Test.YtlbdcahecabfkaaPlRen5
import Derived.Test.YtlbdcahecabfkaaPlKnown
set_option linter.unusedSimpArgs false
set_option linter.unusedVariables false
namespace Go.Pl
open Go.Eng Go.Proofs

/-- May a writing be? -/
def Wmay (a : Rc.Act4) : Prop :=
  if a.op = 0 then GoodT a.t ∧ 0 ≤ a.v ∧ a.v < a.t.length else if a.op = 1 then 1 ≤ a.n ∧ a.n ≤ 15 else if a.op = 2 then 0 ≤ a.n ∧ a.n ≤ 24 ∧ 0 ≤ a.v ∧ a.v < 2 ^ a.n.toNat
  else if a.op = 3 then 1 ≤ a.n ∧ a.n ≤ 4294967295 ∧ 0 ≤ a.v ∧ a.v < a.n else if a.op = 4 then 256 ≤ a.n ∧ a.n ≤ 28000 ∧ 0 ≤ a.m ∧ a.m ≤ 16000
  else GoodT (icdfT a.n) ∧ 0 ≤ a.v ∧ a.v < (icdfT a.n).length
/-- The register behind one that may be. -/
def E.wr (e : E) (a : Rc.Act4) : E :=
  if a.op = 0 then e.sy a.v.toNat a.t else if a.op = 1 then e.fl (a.v % 2 == 1) a.n.toNat else if a.op = 2 then e.bt a.v a.n.toNat
  else if a.op = 3 then e.un a.v a.n else if a.op = 4 then e.la a.v a.n a.m else e.sy a.v.toNat (icdfT a.n)
/-- What was written. -/
def Wval (a : Rc.Act4) : Int :=
  if a.op = 1 then a.v % 2 else if a.op = 4 then (if 256 ≤ a.n ∧ a.n ≤ 28000 ∧ 0 ≤ a.m ∧ a.m ≤ 16000 then lapV a.v a.n a.m else 0) else a.v

theorem E.un_same {e : E} {v ft : Int} : (ft ≤ 256 → (e.un v ft).r = e.r ∧ (e.un v ft).raw = e.raw) ∧ e.k ≤ (e.un v ft).k ∧ (e.un v ft).k ≤ e.k + 4 ∧ e.r ≤ (e.un v ft).r ∧ (256 < ft → (e.un v ft).r = e.r + ub ft) := by
  unfold E.un
  split
  · exact ⟨fun _ => ⟨rfl, rfl⟩, by omega, by omega, by omega, fun h => by omega⟩
  · split
    · have := E.tk_same e v (v + 1) ft
      exact ⟨fun _ => ⟨this.1, this.2.1⟩, by omega, by omega, by omega, fun h => by omega⟩
    · have := E.tk_same e (v / 2 ^ ub ft) (v / 2 ^ ub ft + 1) (uf ft)
      simp only [E.bt]
      exact ⟨fun h => by omega, by omega, by omega, by omega, fun h => by omega⟩

theorem E.wr_ok {e : E} (h : e.Ok) {a : Rc.Act4} (m : Wmay a) (hv : a.v < 9223372036854775808) : (e.wr a).Ok := by
  unfold Wmay at m
  unfold E.wr
  split at m
  · rename_i h0; rw [if_pos h0]; exact E.tk_ok h (sym_place m.1 (by omega))
  rename_i h0; rw [if_neg h0]
  split at m
  · rename_i h1; rw [if_pos h1]; exact E.fl_ok h _ (by omega) (by omega)
  rename_i h1; rw [if_neg h1]
  split at m
  · rename_i h2; rw [if_pos h2]; exact E.bt_ok h m.2.2.1 m.2.2.2
  rename_i h2; rw [if_neg h2]
  split at m
  · rename_i h3; rw [if_pos h3]; exact E.un_ok h m.2.2.1 m.2.2.2 m.2.1
  rename_i h3; rw [if_neg h3]
  split at m
  · rename_i h4; rw [if_pos h4]; exact E.tk_ok h (la_place m.1 m.2.1 m.2.2.1 m.2.2.2 hv)
  rename_i h4; rw [if_neg h4]
  exact E.tk_ok h (sym_place m.1 (by omega))

theorem E.wr_size {e : E} {a : Rc.Act4} (m : Wmay a) : e.k ≤ (e.wr a).k ∧ (e.wr a).k ≤ e.k + 4 ∧ e.r ≤ (e.wr a).r ∧ (e.wr a).r ≤ e.r + 24 := by
  unfold Wmay at m
  unfold E.wr
  split at m
  · rename_i h0; rw [if_pos h0]; have := E.tk_same e (symL a.t a.v.toNat) (256 - a.t.getD a.v.toNat 0) 256; unfold E.sy; omega
  rename_i h0; rw [if_neg h0]
  split at m
  · rename_i h1; rw [if_pos h1]; have := E.fl_same e (a.v % 2 == 1) a.n.toNat; omega
  rename_i h1; rw [if_neg h1]
  split at m
  · rename_i h2; rw [if_pos h2]; simp only [E.bt]; omega
  rename_i h2; rw [if_neg h2]
  split at m
  · rename_i h3; rw [if_pos h3]
    have hs := E.un_same (e := e) (v := a.v) (ft := a.n)
    rcases Int.lt_or_le 256 a.n with h | h
    · obtain ⟨b0, b1, _⟩ := ub_range h m.2.1
      have := hs.2.2.2.2 h
      omega
    · have := hs.1 h; omega
  rename_i h3; rw [if_neg h3]
  split at m
  · rename_i h4; rw [if_pos h4]; have := E.tk_same e (lapP a.n a.m (max a.v (-32768))).2.1 (lapP a.n a.m (max a.v (-32768))).2.2 32768; unfold E.la; omega
  rename_i h4; rw [if_neg h4]
  have := E.tk_same e (symL (icdfT a.n) a.v.toNat) (256 - (icdfT a.n).getD a.v.toNat 0) 256
  unfold E.sy; omega

theorem E.wr_tell {e : E} (h : e.Ok) {a : Rc.Act4} (m : Wmay a) (hv : a.v < 9223372036854775808) : e.tell ≤ (e.wr a).tell ∧ (e.wr a).tell ≤ e.tell + 60 := by
  unfold Wmay at m
  unfold E.wr
  split at m
  · rename_i h0; rw [if_pos h0]; have := E.tk0_tell h (sym_place m.1 (s := a.v.toNat) (by omega)); unfold E.sy; omega
  rename_i h0; rw [if_neg h0]
  split at m
  · rename_i h1; rw [if_pos h1]; have := E.fl_tell h (a.v % 2 == 1) (n := a.n.toNat) (by omega) (by omega); omega
  rename_i h1; rw [if_neg h1]
  split at m
  · rename_i h2; rw [if_pos h2, E.bt_tell]; omega
  rename_i h2; rw [if_neg h2]
  split at m
  · rename_i h3; rw [if_pos h3]; have := E.un_tell h m.2.2.1 m.2.2.2 m.2.1; omega
  rename_i h3; rw [if_neg h3]
  split at m
  · rename_i h4; rw [if_pos h4]; have := E.tk0_tell h (la_place m.1 m.2.1 m.2.2.1 m.2.2.2 hv); unfold E.la; omega
  rename_i h4; rw [if_neg h4]
  have := E.tk0_tell h (sym_place m.1 (s := a.v.toNat) (by omega)); unfold E.sy; omega

open Classical in
/-- .. or of one that may not. -/
noncomputable def E.go (e : E) (a : Rc.Act4) : E := if Wmay a then e.wr a else e

theorem mask1 (x : Int) : IntKind.i64.wrap ↑(BitVec.ofInt IntKind.i64.bits x &&& BitVec.ofInt IntKind.i64.bits 1).toNat = x % 2 := by
  rw [bits_i64, and_mask_any (w := 64) (k := 1) (m := 1) x rfl (by omega), show (2 : Int) ^ 1 = 2 from rfl, i64 (by omega) (by omega)]

section
variable {N : Nat}

open Classical in
theorem written_F {e : E} (h : e.Ok) (hl : e.Low) (hN : 30000 ≤ N) (a : Rc.Act4) (ht : a.t.length ≤ 17592186043904) (hv : a.v < 9223372036854775808) :
    Rc.written.F N a.op a.v a.n a.m e.val e.rng e.r e.count a.t e.told e.bits =
      some (Wval a, (if Wmay a then 0 else 1), (e.go a).val, (e.go a).rng, ((e.go a).r : Int), (e.go a).count, (e.go a).told, (e.go a).bits) := by
  unfold Rc.written.F
  have lim := hl.lim hN
  simp only [br_beq, chkI_same, chkL_same, List.nil_append, List.length_nil, Nat.zero_add]
  have gopos : Wmay a → e.go a = e.wr a := fun m => by unfold E.go; rw [if_pos m]
  have goneg : ¬ Wmay a → e.go a = e := fun m => by unfold E.go; rw [if_neg m]
  by_cases h0 : a.op = 0
  · have hm : Wmay a ↔ GoodT a.t ∧ 0 ≤ a.v ∧ a.v < a.t.length := by unfold Wmay; rw [if_pos h0]
    have hw : e.wr a = e.sy a.v.toNat a.t := by unfold E.wr; rw [if_pos h0]
    have hval : Wval a = a.v := by unfold Wval; rw [if_neg (by omega), if_neg (by omega)]
    have hF := esymbol_F (N := N) h lim a.v a.t (raw := e.bits)
    have hs := E.tk_same e (symL a.t a.v.toNat) (256 - a.t.getD a.v.toNat 0) 256
    rw [if_pos h0, chk_pos ht, hval]
    by_cases m : Wmay a
    · rw [hF.1 (hm.1 m), obind_of, if_pos m, gopos m, hw]
      simp only [E.sy, E.bits, hs.1, hs.2.1]
    · rw [hF.2 (fun h => m (hm.2 h)), obind_of, if_neg m, goneg m]
  rw [if_neg h0]
  by_cases h1 : a.op = 1
  · have hm : Wmay a ↔ 1 ≤ a.n ∧ a.n ≤ 15 := by unfold Wmay; rw [if_neg h0, if_pos h1]
    have hw : e.wr a = e.fl (a.v % 2 == 1) a.n.toNat := by unfold E.wr; rw [if_neg h0, if_pos h1]
    have hval : Wval a = a.v % 2 := by unfold Wval; rw [if_pos h1]
    have hs := E.fl_same e (a.v % 2 == 1) a.n.toNat
    rw [if_pos h1, mask1, eflag_F h lim, obind_of, hval]
    by_cases m : Wmay a
    · rw [if_pos (hm.1 m), if_pos m, gopos m, hw]
      simp only [E.bits, hs.1, hs.2.1]
    · rw [if_neg (fun h => m (hm.2 h)), if_neg m, goneg m]
  rw [if_neg h1]
  by_cases h2 : a.op = 2
  · have hm : Wmay a ↔ 0 ≤ a.n ∧ a.n ≤ 24 ∧ 0 ≤ a.v ∧ a.v < 2 ^ a.n.toNat := by unfold Wmay; rw [if_neg h0, if_neg h1, if_pos h2]
    have hw : e.wr a = e.bt a.v a.n.toNat := by unfold E.wr; rw [if_neg h0, if_neg h1, if_pos h2]
    have hval : Wval a = a.v := by unfold Wval; rw [if_neg (by omega), if_neg (by omega)]
    rw [if_pos h2, ebits_F h lim.k lim.r (by omega), obind_of, hval]
    by_cases m : Wmay a
    · rw [if_pos (hm.1 m), if_pos m, gopos m, hw]
      rfl
    · rw [if_neg (fun h => m (hm.2 h)), if_neg m, goneg m]
  rw [if_neg h2]
  by_cases h3 : a.op = 3
  · have hm : Wmay a ↔ 1 ≤ a.n ∧ a.n ≤ 4294967295 ∧ 0 ≤ a.v ∧ a.v < a.n := by unfold Wmay; rw [if_neg h0, if_neg h1, if_neg h2, if_pos h3]
    have hw : e.wr a = e.un a.v a.n := by unfold E.wr; rw [if_neg h0, if_neg h1, if_neg h2, if_pos h3]
    have hval : Wval a = a.v := by unfold Wval; rw [if_neg (by omega), if_neg (by omega)]
    rw [if_pos h3, euint_F h lim (by have := hl.k; omega), obind_of, hval]
    by_cases m : Wmay a
    · rw [if_pos (hm.1 m), if_pos m, gopos m, hw]
    · rw [if_neg (fun h => m (hm.2 h)), if_neg m, goneg m]
  rw [if_neg h3]
  by_cases h4 : a.op = 4
  · have hm : Wmay a ↔ 256 ≤ a.n ∧ a.n ≤ 28000 ∧ 0 ≤ a.m ∧ a.m ≤ 16000 := by unfold Wmay; rw [if_neg h0, if_neg h1, if_neg h2, if_neg h3, if_pos h4]
    have hw : e.wr a = e.la a.v a.n a.m := by unfold E.wr; rw [if_neg h0, if_neg h1, if_neg h2, if_neg h3, if_pos h4]
    have hval : Wval a = if 256 ≤ a.n ∧ a.n ≤ 28000 ∧ 0 ≤ a.m ∧ a.m ≤ 16000 then lapV a.v a.n a.m else 0 := by unfold Wval; rw [if_neg h1, if_pos h4]
    have hs := E.tk_same e (lapP a.n a.m (max a.v (-32768))).2.1 (lapP a.n a.m (max a.v (-32768))).2.2 32768
    rw [if_pos h4, elaplace_F h lim (by omega) _ _ _ hv, obind_of, hval]
    by_cases m : Wmay a
    · rw [if_pos (hm.1 m), if_pos m, if_pos (hm.1 m), gopos m, hw]
      simp only [E.la, E.bits, hs.1, hs.2.1]
    · rw [if_neg (fun h => m (hm.2 h)), if_neg m, if_neg (fun h => m (hm.2 h)), goneg m]
  · have hm : Wmay a ↔ GoodT (icdfT a.n) ∧ 0 ≤ a.v ∧ a.v < (icdfT a.n).length := by unfold Wmay; rw [if_neg h0, if_neg h1, if_neg h2, if_neg h3, if_neg h4]
    have hw : e.wr a = e.sy a.v.toNat (icdfT a.n) := by unfold E.wr; rw [if_neg h0, if_neg h1, if_neg h2, if_neg h3, if_neg h4]
    have hval : Wval a = a.v := by unfold Wval; rw [if_neg (by omega), if_neg (by omega)]
    have hF := esymbol_F (N := N) h lim a.v (icdfT a.n) (raw := e.bits)
    have hs := E.tk_same e (symL (icdfT a.n) a.v.toNat) (256 - (icdfT a.n).getD a.v.toNat 0) 256
    rw [if_neg h4, icdf_F, obind_of, hval]
    by_cases m : Wmay a
    · rw [hF.1 (hm.1 m), obind_of, if_pos m, gopos m, hw]
      simp only [E.sy, E.bits, hs.1, hs.2.1]
    · rw [hF.2 (fun h => m (hm.2 h)), obind_of, if_neg m, goneg m]

theorem E.go_facts {e : E} (h : e.Ok) (a : Rc.Act4) (hv : a.v < 9223372036854775808) : (e.go a).Ok ∧ e.k ≤ (e.go a).k ∧ (e.go a).k ≤ e.k + 4 ∧ e.r ≤ (e.go a).r ∧ (e.go a).r ≤ e.r + 24 ∧ e.tell ≤ (e.go a).tell ∧ (e.go a).tell ≤ e.tell + 60 := by
  unfold E.go
  split
  · rename_i m
    have h1 := E.wr_size (e := e) m
    have h2 := E.wr_tell h m hv
    exact ⟨E.wr_ok h m hv, by omega⟩
  · exact ⟨h, by omega⟩

/-! ### Tell never falls -/
/-! ### Laplace's numbers -/
theorem lap_again {fs decay v : Int} (h0 : 256 ≤ fs) (h1 : fs ≤ 28000) (d0 : 0 ≤ decay) (d1 : decay ≤ 16000) (hv : v < 9223372036854775808) :
    lapV (lapV v fs decay) fs decay = lapV v fs decay ∧ (0 ≤ v → 0 ≤ lapV v fs decay ∧ lapV v fs decay ≤ v ∧ (lapV v fs decay ≠ v → lapV (lapV v fs decay + 1) fs decay = lapV v fs decay)) ∧
      (v < 0 → lapV v fs decay ≤ 0 ∧ v ≤ lapV v fs decay ∧ -32768 < lapV v fs decay ∧ (lapV v fs decay ≠ v → lapV (lapV v fs decay - 1) fs decay = lapV v fs decay)) := by
  obtain ⟨sm, _, _, _⟩ := start_sm h0 h1 d0 d1
  have key : ∀ x : Int, x < 9223372036854775808 → -32768 ≤ x → Lap fs decay x (lapP fs decay x) := fun x hx hx2 => (eplace_F (N := 20000) h0 h1 d0 d1 (by omega) hx (Nat.le_refl _)).2
  have hst : (Lp.start fs decay).v = 1 := rfl
  -- a place determines the number
  have same : ∀ (x up sg : Int) (i : Nat), (0 < x ∧ up = 1 ∧ sg = 1 ∨ x < 0 ∧ up = 0 ∧ sg = -1) → i < 16300 → (∀ j, j ≤ i → ¬ plOut decay up j (Lp.start fs decay)) → 1 + (i : Int) ≤ sg * x → (1 + (i : Int) = sg * x ∨ plOut decay up (i + 1) (Lp.start fs decay)) →
      lapP fs decay x = plR decay up sg i (Lp.start fs decay) := by
    intro x up sg i hu hi hn hw he
    unfold lapP
    rcases hu with ⟨hx, rfl, rfl⟩ | ⟨hx, rfl, rfl⟩
    · rw [if_neg (by omega), if_neg (by omega)]
      exact plc_at d0 d1 i 16384 (Lp.start fs decay) _ sm hn (by omega) (by omega) (he.imp (fun h => by omega) id)
    · rw [if_neg (by omega), if_pos hx]
      exact plc_at d0 d1 i 16384 (Lp.start fs decay) _ sm hn (by omega) (by omega) (he.imp (fun h => by omega) id)
  have hL := key (max v (-32768)) (by omega) (by omega)
  by_cases hz : v = 0
  · subst hz
    have e0 : lapV 0 fs decay = 0 := by unfold lapV; rw [hL.z (by omega)]
    rw [e0]
    exact ⟨e0, fun _ => ⟨by omega, by omega, fun h => absurd rfl h⟩, fun h => by omega⟩
  · obtain ⟨up, sg, i, hu, hi, i1, i2, i3, hr⟩ := hL.nz (by omega)
    have hv1 : (Lp.it decay i (Lp.start fs decay)).v = 1 + i := by rw [(Lp.it_facts d0 d1 i _ sm).2.2, hst]
    have hlv : lapV v fs decay = sg * (1 + i) := by
      unfold lapV
      rw [hr]
      show sg * (Lp.it decay i (Lp.start fs decay)).v = _
      rw [hv1]
    rcases hu with ⟨hp, rfl, rfl⟩ | ⟨hp, rfl, rfl⟩
    · have hv0 : 0 < v := by omega
      have hw : lapV v fs decay = 1 + i := by rw [hlv]; omega
      have e1 := same (1 + i) 1 1 i (Or.inl ⟨by omega, rfl, rfl⟩) hi i1 (by omega) (Or.inl (by omega))
      have a1 : lapV (1 + i) fs decay = 1 + i := by
        unfold lapV
        rw [show max (1 + (i : Int)) (-32768) = 1 + i by omega, e1]
        show 1 * (Lp.it decay i (Lp.start fs decay)).v = _
        rw [hv1]; omega
      rw [hw]
      refine ⟨a1, fun _ => ⟨by omega, by omega, fun hne => ?_⟩, fun h => by omega⟩
      have hout := i3.resolve_left (by omega)
      have e2 := same (1 + i + 1) 1 1 i (Or.inl ⟨by omega, rfl, rfl⟩) hi i1 (by omega) (Or.inr hout)
      unfold lapV
      rw [show max (1 + (i : Int) + 1) (-32768) = 1 + i + 1 by omega, e2]
      show 1 * (Lp.it decay i (Lp.start fs decay)).v = _
      rw [hv1]; omega
    · have hv0 : v < 0 := by omega
      have hw : lapV v fs decay = -(1 + i) := by rw [hlv]; omega
      have e1 := same (-(1 + i)) 0 (-1) i (Or.inr ⟨by omega, rfl, rfl⟩) hi i1 (by omega) (Or.inl (by omega))
      have a1 : lapV (-(1 + i)) fs decay = -(1 + i) := by
        unfold lapV
        rw [show max (-(1 + (i : Int))) (-32768) = -(1 + i) by omega, e1]
        show -1 * (Lp.it decay i (Lp.start fs decay)).v = _
        rw [hv1]; omega
      rw [hw]
      refine ⟨a1, fun h => by omega, fun _ => ⟨by omega, by omega, by omega, fun hne => ?_⟩⟩
      have hout := i3.resolve_left (by omega)
      have e2 := same (-(1 + i) - 1) 0 (-1) i (Or.inr ⟨by omega, rfl, rfl⟩) hi i1 (by omega) (Or.inr hout)
      unfold lapV
      rw [show max (-(1 + (i : Int)) - 1) (-32768) = -(1 + i) - 1 by omega, e2]
      show -1 * (Lp.it decay i (Lp.start fs decay)).v = _
      rw [hv1]; omega

end
end Go.Pl
