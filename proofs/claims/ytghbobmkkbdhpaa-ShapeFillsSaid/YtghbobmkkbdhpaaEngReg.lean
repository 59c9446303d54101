/-
  The engine, part ten: a region in the text's order.
  Conditions: none; nothing is claimed of the program here.
-/
import Derived.Test.YtghbobmkkbdhpaaEngOps
set_option linter.unusedSimpArgs false
set_option linter.unusedVariables false
namespace Go.Eng
variable {RT : RoTab} {E : Env} {F : Fr} {a : Act} {H : Heap} {fp : Fp} {w : World} {P : Program} {Y : Type} {y : Y}

/-- A state. -/
structure St (RT : RoTab) (E : Env) (H : Heap) (fp : Fp) (w : World) (F : Fr) (a : Act) (nx n : Nat) : Prop where
  sim : Sim RT E H fp w
  fresh : Fresh E nx
  rf : RF RT E F a
  size : a.tmps.size = n
  df : a.defers = []

/-- From one state to a later one, where names may move. -/
structure Trip (C : Cfg) (E : Env) (H : Heap) (fp : Fp) (w : World) (nx : Nat) (E' : Env) (H' : Heap) (fp' : Fp) (w' : World) (nx' : Nat) : Prop where
  keep : ∀ id I, id < C.hi → id ∉ C.mv → E.info id = some I → E'.info id = some I
  M : ∀ a v, E.M a = some v → E'.M a = some v
  frm : Frm w (OwnAll H fp) w'
  own : ∀ x, OwnAll H' fp' x → x.1 < w.heap.size → OwnAll H fp x
  nx : nx ≤ nx'
  fresh : Fresh E' nx'
  ext : MExt E H fp w E'

variable {C : Cfg}

theorem Step.trip {nx : Nat} {E' : Env} {H' : Heap} {fp' : Fp} {w' : World} {nx' : Nat} (h : Step E H fp w nx E' H' fp' w' nx') : Trip C E H fp w nx E' H' fp' w' nx' :=
  ⟨fun id I _ _ hI => h.le.info id I hI, h.le.M, h.frm, h.own, h.nx, h.fresh, h.ext⟩

theorem Trip.refl {nx : Nat} (hf : Fresh E nx) : Trip C E H fp w nx E H fp w nx := (Step.refl hf).trip

theorem Trip.trans {E' E'' : Env} {H' H'' : Heap} {fp' fp'' : Fp} {w' w'' : World} {nx nx' nx'' : Nat}
    (h : Trip C E H fp w nx E' H' fp' w' nx') (k : Trip C E' H' fp' w' nx' E'' H'' fp'' w'' nx'') : Trip C E H fp w nx E'' H'' fp'' w'' nx'' where
  keep := fun id I h1 h2 hI => k.keep id I h1 h2 (h.keep id I h1 h2 hI)
  M := fun a v ha => k.M a v (h.M a v ha)
  frm := h.frm.trans k.frm h.own
  own := fun x hx hlt => h.own x (k.own x hx (Nat.lt_of_lt_of_le hlt h.frm.size)) hlt
  nx := Nat.le_trans h.nx k.nx
  fresh := k.fresh
  ext := h.ext.trans k.ext h.frm.size h.own

/-- Slots that are not written stay. -/
def Same (g : Nat → Bool) (a a' : Act) : Prop := ∀ j, g j = false → a'.tmps.getD j undef = a.tmps.getD j undef

theorem Same.refl (g : Nat → Bool) (a : Act) : Same g a a := fun _ _ => rfl
theorem Same.trans {g : Nat → Bool} {a a' a'' : Act} (h : Same g a a') (k : Same g a' a'') : Same g a a'' := fun j hj => (k j hj).trans (h j hj)
theorem Same.mono {g g' : Nat → Bool} {a a' : Act} (h : Same g a a') (hg : ∀ j, g j = true → g' j = true) : Same g' a a' := fun j hj => h j (by
  cases hb : g j with
  | false => rfl
  | true => rw [hg j hb] at hj; simp at hj)

theorem Same.put (a : Act) (d : Option Tmp) (v : Value) : Same (fun j => eqO d (some j)) a (a.put d v) := by
  intro j hj
  cases d with
  | none => rfl
  | some d =>
    simp only [eqO] at hj
    have hne : j ≠ d := fun he => by subst he; simp at hj
    exact getD_set_other hne

theorem named_eq (K : FCfg) (d : Option Tmp) (v : AV) (k : AV → Option Y) : named K d v k = k v := by
  unfold named
  split
  · rfl
  · split
    · rfl
    · split <;> rfl

theorem putF_id (F : Fr) (d : Nat) {v : AV} (h : F d = v) : putF F d v = F := by
  funext j
  rw [putF_eq]
  split
  · rename_i hj; rw [hj, h]
  · rfl

theorem getD_bool {ts : Array Value} {d : Nat} {b : Bool} (h : ts.getD d undef = .bool b) : ts[d]? = some (.bool b) := by
  cases ht : ts[d]? with
  | none => simp [Array.getD_eq_getD_getElem?, ht, undef] at h
  | some v => simp [Array.getD_eq_getD_getElem?, ht] at h; rw [h]

theorem R.und_inv {v : Value} (h : R RT E .und v) : v = undef := by cases h; rfl

theorem yielded_und {ops : Array Oper} {ts : Array Value} {g d : Nat} (hd : dstAt ops.toList g = some d) (h : ts.getD d undef = undef) : yielded ops ts g = none := by
  unfold dstAt at hd
  split at hd
  · rename_i og hog
    rw [nth_eq] at hog
    have : ops[g]? = some og := by simpa using hog
    simp only [yielded, this, Option.bind_some, hd]
    cases ht : ts[d]? with
    | none => rfl
    | some v =>
      simp [Array.getD_eq_getD_getElem?, ht] at h
      subst h
      rfl
  · simp at hd

/-- The guard is asked. -/
theorem evGuard_sound {ops : Array Oper} {o : Oper} {yes no : Fr → Option Y} (hF : ∀ g want d, o.guard = some (g, want) → dstAt ops.toList g = some d → RV RT E (F d) (a.tmps.getD d undef))
    (hk : evGuard ops.toList o F yes no = some y) :
    (Region.wanted o (yielded ops a.tmps) = true ∧ yes F = some y) ∨ (Region.wanted o (yielded ops a.tmps) = false ∧ no F = some y) := by
  unfold evGuard at hk
  split at hk
  · rename_i hg
    exact Or.inl ⟨by simp [Region.wanted, hg], hk⟩
  · rename_i g want hg
    split at hk
    · simp at hk
    · rename_i d hd
      have hv := hF g want d hg hd
      split at hk
      · rename_i b hb
        rw [hb] at hv
        have hv' : R RT E (.bool b) (a.tmps.getD d undef) := hv
        have hv2 := getD_bool (R.bool_inv hv')
        have hy : yielded ops a.tmps g = some b := by
          unfold dstAt at hd
          split at hd
          · rename_i og hog
            rw [nth_eq] at hog
            have : ops[g]? = some og := by simpa using hog
            simp [yielded, this, hd, hv2]
          · simp at hd
        cases b with
        | true =>
          simp only [br] at hk
          rw [putF_id F d hb] at hk
          cases want with
          | true => exact Or.inl ⟨by simp [Region.wanted, hg, hy], hk⟩
          | false => exact Or.inr ⟨by simp [Region.wanted, hg, hy], hk⟩
        | false =>
          simp only [br] at hk
          rw [putF_id F d hb] at hk
          cases want with
          | true => exact Or.inr ⟨by simp [Region.wanted, hg, hy], hk⟩
          | false => exact Or.inl ⟨by simp [Region.wanted, hg, hy], hk⟩
      · rename_i hb
        rw [hb] at hv
        have hv' : R RT E .und (a.tmps.getD d undef) := hv
        exact Or.inr ⟨by simp [Region.wanted, hg, yielded_und hd (R.und_inv hv')], hk⟩
      · simp at hk

/-- ONE OPERATION. -/
theorem evOne_sound (hC : CfgOK C) {inl : Inl} (hinl : InlOK C inl) {K : FCfg} {nx : Nat} {o : Oper} {k : AV → KS Y} (hs : Sim C.RT E H fp w) (hf : Fresh E nx) (hF : RF C.RT E F a)
    (hk : evOne C K inl o H F H nx k = some y) {Q : Exit → Act → World → Prop} {next : Act → World → Prop}
    (hnext : ∀ v u H' nx' E' fp' w', k v (putO F o.dst v) H' nx' = some y → RV C.RT E' v u → Sim C.RT E' H' fp' w' → Step E H fp w nx E' H' fp' w' nx' → next (a.put o.dst u) w') :
    o.wp C.P a w next Q := by
  unfold evOne at hk
  split at hk
  · simp only [named_eq] at hk
    exact evC_sound hC hinl hs hf hF hk hnext
  · split at hk
    · obtain ⟨v, E', u, w', h1, h2, h3, h4, h5⟩ := lit_sound hs hf hF hk
      unfold Oper.wp
      rw [h2]
      exact hnext _ _ _ _ _ _ _ h1 h3 h4 h5
    · simp only [named_eq] at hk
      obtain ⟨v, u, h1, h2, h3⟩ := evR_sound hF hs hk
      unfold Oper.wp
      rw [h2]
      exact hnext _ _ _ _ _ _ _ h1 h3 hs (Step.refl hf)

theorem both_some {a b : Option Y} (h : both a b = some y) : a = some y ∧ b = some y := by
  unfold both at h
  split at h
  · split at h
    · rename_i he; simp at h; subst h; subst he; exact ⟨rfl, rfl⟩
    · simp at h
  · simp at h

theorem nilN_some {n : Nat} {a b : Option Y} (h : nilN n a b = some y) : b = some y ∧ (n = 0 → a = some y) := by
  cases n with
  | zero => exact ⟨(both_some h).2, fun _ => (both_some h).1⟩
  | succ n => exact ⟨h, fun h0 => by simp at h0⟩

theorem nilN_of {n : Nat} {a b : Option Y} (ha : n = 0 → a = some y) (hb : b = some y) : nilN n a b = some y := by
  cases n with
  | zero => simp [nilN, both, ha rfl, hb]
  | succ n => exact hb

theorem equalIn_sl (d : Nat) {t e : TypeId} {n c : Nat} {b : Option Addr} (h : P.underlying t = some (.slice e)) : (Op.equalIn (d + 1) t (.slice b n c) (.slice none 0 0)).run P w = .ok b.isNone w := by
  cases b <;> simp [Op.equalIn, run_und h]

theorem mayNil_base {x : Atom} {base : Option Addr} {n cap : Nat} (hs : Sim RT E H fp w) (hx : R RT E x (.slice base n cap)) (h : mayNil x = true) : base = none → n = 0 := by
  intro hb0
  subst hb0
  cases hx with
  | full h hb hn hc hg => rcases hb with hb | hb; · simp at hb
                          exact hb.1
  | sub h hw hl hc hb => rcases hb with hb | hb; · simp at hb
                         exact hb
  | roi hc hx =>
    rename_i k xs
    cases xs with
    | nil => rfl
    | cons y ys => obtain ⟨a, ha, _⟩ := hx 0 (by simp); simp at ha
  | _ => simp [mayNil] at h

theorem R.nils_inv {v : Value} (h : R RT E .nils v) : v = .slice none 0 0 := by cases h; rfl

theorem nilT_sound {o : Oper} {n : Nat} {neg : Bool} {k : AV → Option Y} (hF : RF RT E F a) (hs : Sim RT E H fp w) (h : nilT P RT H F o.op = some (n, neg))
    (hk : nilN n (k (.at (.bool (!neg)))) (k (.at (.bool neg))) = some y) : ∃ v u, k v = some y ∧ (execOp a.eval o).run P w = .ok (.value u) w ∧ RV RT E v u := by
  obtain ⟨hk0, hk1⟩ := nilN_some hk
  unfold nilT at h
  unfold execOp
  split at h
  · rename_i t x z ge ho
    simp only [ho]
    split at h
    · rename_i e x' hu hx hz
      split at h
      · rename_i n' hm hl
        simp only [Option.some.injEq, Prod.mk.injEq] at h
        obtain ⟨rfl, rfl⟩ := h
        have hxv := opd_sound hF x
        have hzv := opd_sound hF z
        rw [hx] at hxv
        rw [hz] at hzv
        have hxv' : R RT E x' (a.eval x) := hxv
        have hzv' : R RT E .nils (a.eval z) := hzv
        obtain ⟨base, cap, h1, _⟩ := lenA_sound hs hxv' hl
        have h2 : a.eval z = .slice none 0 0 := R.nils_inv hzv'
        rw [h1] at hxv' ⊢
        rw [h2]
        have hb := mayNil_base hs hxv' hm
        have hg : (eqGuard .eql t x z (.slice base n' cap) (.slice none 0 0)).run P w = .ok () w := eqGuard_run (by simp)
        refine ⟨.at (.bool base.isNone), .bool base.isNone, ?_, ?_, R.bool _⟩
        · cases base with
          | none => exact hk1 (hb rfl)
          | some ad => exact hk0
        · simp only [Sem.run_bind, hg, Result.andThen_ok, eql_of (equalIn_sl 9999 hu) rfl, Sem.run_pure]
      · simp at h
    · simp at h
  · rename_i t x z ge ho
    simp only [ho]
    split at h
    · rename_i e x' hu hx hz
      split at h
      · rename_i n' hm hl
        simp only [Option.some.injEq, Prod.mk.injEq] at h
        obtain ⟨rfl, rfl⟩ := h
        have hxv := opd_sound hF x
        have hzv := opd_sound hF z
        rw [hx] at hxv
        rw [hz] at hzv
        have hxv' : R RT E x' (a.eval x) := hxv
        have hzv' : R RT E .nils (a.eval z) := hzv
        obtain ⟨base, cap, h1, _⟩ := lenA_sound hs hxv' hl
        have h2 : a.eval z = .slice none 0 0 := R.nils_inv hzv'
        rw [h1] at hxv' ⊢
        rw [h2]
        have hb := mayNil_base hs hxv' hm
        have hg : (eqGuard .neq t x z (.slice base n' cap) (.slice none 0 0)).run P w = .ok () w := eqGuard_run (by simp)
        refine ⟨.at (.bool !base.isNone), .bool !base.isNone, ?_, ?_, R.bool _⟩
        · cases base with
          | none => exact hk1 (hb rfl)
          | some ad => exact hk0
        · simp only [Sem.run_bind, hg, Result.andThen_ok, neq_of (equalIn_sl 9999 hu) rfl, Sem.run_pure]
      · simp at h
    · simp at h
  · simp at h

open Classical in
/-- What a block holds stays as it is from here on. -/
noncomputable def frzE (E : Env) (fp : Fp) (w : World) (id : Nat) : Env :=
  ⟨E.info, fun ad => match E.M ad with
    | some v => some v
    | none => if ad.spot = none ∧ fp id (ad.block, ad.off) then w.cell? ad else none⟩

theorem frz_le (id : Nat) : E.Le (frzE E fp w id) := ⟨fun _ _ h => h, fun ad v h => by simp only [frzE, h]⟩

theorem frz_M {id : Nat} {ad : Addr} {v : Value} (h : (frzE E fp w id).M ad = some v) : E.M ad = some v ∨ (ad.spot = none ∧ fp id (ad.block, ad.off) ∧ w.cell? ad = some v) := by
  simp only [frzE] at h
  split at h
  · rename_i u hu; simp only [Option.some.injEq] at h; subst h; exact Or.inl hu
  · split at h
    · rename_i hc; exact Or.inr ⟨hc.1, hc.2, h⟩
    · simp at h

theorem frz_sound {v : AV} {u : Value} {nx : Nat} {k : AV → Heap → Option Y} (hs : Sim RT E H fp w) (hf : Fresh E nx) (hv : RV RT E v u) (hk : frzA v H k = some y) :
    ∃ v' H' E', k v' H' = some y ∧ RV RT E' v' u ∧ Sim RT E' H' fp w ∧ Step E H fp w nx E' H' fp w nx := by
  unfold frzA at hk
  split at hk
  · rename_i id nn
    split at hk
    · rename_i g kd xs hb
      have hsub : ∀ i b, putH H id none i = some b → H i = some b ∧ i ≠ id := by
        intro i b h
        rw [putH_eq] at h
        split at h
        · simp at h
        · rename_i hne; exact ⟨h, hne⟩
      refine ⟨_, _, frzE E fp w id, hk, ?_, ⟨fun i b h => ?_, fun i j b c x h1 h2 hij hx => hs.disj i j b c x (hsub i b h1).1 (hsub j c h2).1 hij hx, fun ad v h => ?_⟩, ⟨frz_le id, .refl w _, fun x ⟨i, b, h1, h2⟩ _ => ⟨i, b, (hsub i b h1).1, h2⟩, Nat.le_refl _, fun i hi => hf i hi, fun ad v h => ?_⟩⟩
      · have hv' : R RT E (.full id nn) u := hv
        obtain ⟨I, hI, ok⟩ := hs.blk _ _ hb
        obtain ⟨k1, k2, k3, k4⟩ := ok.kind
        have hcap := ok.cap
        cases hv' with
        | full h hbase hn hc hg =>
          rename_i cap J base
          rw [hI] at h
          obtain rfl := Option.some.inj h
          show R RT (frzE E fp w id) (.roi kd xs) _
          rw [k2]
          refine R.roi (by omega) fun i hi => ?_
          rcases hbase with hbase | ⟨h0, _⟩
          · refine ⟨_, hbase, rfl, ?_⟩
            have hcell := k4 i hi
            have hown : fp id (I.cb, I.coff + i) := (ok.own _).2 ⟨rfl, by simp, by simp only [k1]; split <;> omega⟩
            simp only [frzE]
            split
            · rename_i u' hu'
              obtain ⟨_, _, h3⟩ := hs.ro _ _ hu'
              exact absurd hown (h3 id _ hb)
            · rw [if_pos ⟨rfl, hown⟩]
              exact hcell
          · omega
      · obtain ⟨I, hI, ok⟩ := hs.blk i b (hsub i b h).1
        exact ⟨I, hI, ok.mono (frz_le id)⟩
      · rcases frz_M h with h | ⟨h1, h2, h3⟩
        · obtain ⟨g1, g2, g3⟩ := hs.ro ad v h
          exact ⟨g1, g2, fun i b hb' => g3 i b (hsub i b hb').1⟩
        · exact ⟨h1, h3, fun i b hb' => hs.disj id i _ b _ hb (hsub i b hb').1 (Ne.symm (hsub i b hb').2) h2⟩
      · rcases frz_M h with h | ⟨h1, h2, h3⟩
        · exact Or.inl h
        · exact Or.inr (Or.inr ⟨id, _, hb, h2⟩)
    · simp at hk
  · simp at hk

theorem emp_sound {nx : Nat} {T : RecT} {v : AV} {u : Value} {k : AV → Heap → Nat → Option Y} (hs : Sim RT E H fp w) (hf : Fresh E nx) (hv : RV RT E v u) (hk : empA T v H nx k = some y) :
    ∃ v' H' nx' E' fp', k v' H' nx' = some y ∧ RV RT E' v' u ∧ Sim RT E' H' fp' w ∧ Step E H fp w nx E' H' fp' w nx' := by
  unfold empA at hk
  split at hk
  · have hv' : R RT E .nils u := hv
    have hu : u = .slice none 0 0 := by cases hv'; rfl
    subst hu
    have hno : ∀ x, ¬ Own ⟨0, 0, 0, 0, recW T, true⟩ x := fun x hx => by
      obtain ⟨_, h1, h2⟩ := hx
      simp only [if_true, Nat.zero_mul] at h2
      omega
    have hadd := Sim.add (nx := nx) (b := .recs true T []) (I := ⟨0, 0, 0, 0, recW T, true⟩) (w' := w) (O := fun _ => False) hs (hf _ (Nat.le_refl _)) (Frm.refl w _) (fun _ _ h => h) (fun _ _ _ h => h)
      ⟨fun _ => Iff.rfl, Nat.le_refl _, fun x hx => absurd hx (hno x), rfl, rfl, fun _ => rfl, fun i j x hi => by simp at hi⟩ (fun x hx => absurd hx (hno x))
    refine ⟨_, _, _, _, _, hk, ?_, hadd, Step.add hf (fun _ _ h => h) (Frm.refl w _) (fun x hx => absurd hx (hno x))⟩
    exact R.full (I := ⟨0, 0, 0, 0, recW T, true⟩) (by simp [putI]) (Or.inr ⟨rfl, fun _ => rfl⟩) (fun h => by simp at h) (Nat.le_refl _) (fun _ => rfl)
  · exact ⟨_, _, _, _, _, hk, hv, hs, Step.refl hf⟩

theorem putO_put (F : Fr) (d : Option Tmp) (v v' : AV) : putO (putO F d v) d v' = putO F d v' := by
  cases d with
  | none => rfl
  | some d =>
    funext j
    simp only [putO, putF_eq]
    split <;> rfl

/-- One operation, in the text's order. -/
theorem evOneN_sound (hC : CfgOK C) {inl : Inl} (hinl : InlOK C inl) {K : FCfg} {nx : Nat} {o : Oper} {k : AV → KS Y} (hs : Sim C.RT E H fp w) (hf : Fresh E nx) (hF : RF C.RT E F a)
    (hk : evOneN C K inl o F H nx k = some y) {Q : Exit → Act → World → Prop} {next : Act → World → Prop}
    (hnext : ∀ v u H' nx' E' fp' w', k v (putO F o.dst v) H' nx' = some y → RV C.RT E' v u → Sim C.RT E' H' fp' w' → Step E H fp w nx E' H' fp' w' nx' → next (a.put o.dst u) w') :
    o.wp C.P a w next Q := by
  unfold evOneN at hk
  split at hk
  · rename_i n neg hn
    obtain ⟨v, u, h1, h2, h3⟩ := nilT_sound (k := fun v => k v (putO F o.dst v) H nx) hF hs hn hk
    unfold Oper.wp
    rw [h2]
    exact hnext _ _ _ _ _ _ _ h1 h3 hs (Step.refl hf)
  · cases hm : memO K.frz o.dst with
    | false =>
      simp only [hm] at hk
      cases he : empT K.emps o.dst with
      | none =>
        simp only [he] at hk
        exact evOne_sound hC hinl hs hf hF hk hnext
      | some T =>
        simp only [he] at hk
        refine evOne_sound hC hinl hs hf hF hk fun v u H' nx' E' fp' w' g1 g2 g3 g4 => ?_
        obtain ⟨v', H2, nx2, E2, fp2, h1, h2, h3, h4⟩ := emp_sound g3 g4.fresh g2 g1
        rw [putO_put] at h1
        exact hnext _ _ _ _ _ _ _ h1 h2 h3 (g4.trans h4)
    | true =>
      simp only [hm] at hk
      refine evOne_sound hC hinl hs hf hF hk fun v u H' nx' E' fp' w' g1 g2 g3 g4 => ?_
      obtain ⟨v', H2, E2, h1, h2, h3, h4⟩ := frz_sound (nx := nx') g3 g4.fresh g2 g1
      rw [putO_put] at h1
      exact hnext _ _ _ _ _ _ _ h1 h2 h3 (g4.trans h4)

theorem asgOps_head {o : Oper} {os : List Oper} {j : Nat} (h : eqO o.dst (some j) = true) : asgOps (o :: os) j = true := by simp [asgOps, h]
theorem asgOps_tail {o : Oper} {os : List Oper} {j : Nat} (h : asgOps os j = true) : asgOps (o :: os) j = true := by simp [asgOps, h]

theorem dstOps_cons {n : Nat} {o : Oper} {os : List Oper} (h : dstOps n (o :: os) = true) : (∀ d, o.dst = some d → d < n) ∧ dstOps n os = true := by
  simp only [dstOps, Bool.and_eq_true] at h
  refine ⟨fun d hd => ?_, h.2⟩
  have := h.1
  rw [hd] at this
  exact blt_iff.1 this

/-- A REGION IN THE TEXT'S ORDER. -/
theorem evOps_sound (hC : CfgOK C) {inl : Inl} (hinl : InlOK C inl) {K : FCfg} {ops : Array Oper} {k : KS Y} {n : Nat} {Q : Exit → Act → World → Prop} :
    ∀ {l : List Oper} {F : Fr} {H : Heap} {nx : Nat} {E : Env} {fp : Fp} {w : World} {a : Act}, evOps C K inl ops.toList l F H nx k = some y → St C.RT E H fp w F a nx n → dstOps n l = true →
      (∀ F' H' nx' E' fp' a' w', k F' H' nx' = some y → St C.RT E' H' fp' w' F' a' nx' n → Trip C E H fp w nx E' H' fp' w' nx' → Same (asgOps l) a a' → Q .normal a' w') →
      wpList C.P ops Q l a w
  | [], F, H, nx, E, fp, w, a, hk, st, _, hQ => hQ _ _ _ _ _ _ _ hk st (.refl st.fresh) (.refl _ _)
  | o :: os, F, H, nx, E, fp, w, a, hk, st, hd, hQ => by
    obtain ⟨hd1, hd2⟩ := dstOps_cons hd
    simp only [evOps] at hk
    simp only [wpList]
    rcases evGuard_sound (RT := C.RT) (E := E) (a := a) (fun g want d _ _ => st.rf d) hk with ⟨hw, hk⟩ | ⟨hw, hk⟩
    · rw [if_pos hw]
      refine Or.inl (evOneN_sound hC hinl st.sim st.fresh st.rf hk fun v u H' nx' E' fp' w' g1 g2 g3 g4 => ?_)
      have hst : St C.RT E' H' fp' w' (putO F o.dst v) (a.put o.dst u) nx' n :=
        ⟨g3, g4.fresh, (st.rf.mono g4.le).put (fun t ht => by rw [st.size]; exact hd1 t ht) g2, by rw [Act.put_size]; exact st.size, by cases o.dst <;> exact st.df⟩
      exact evOps_sound hC hinl g1 hst hd2 fun F2 H2 nx2 E2 fp2 a2 w2 q1 q2 q3 q4 =>
        hQ _ _ _ _ _ _ _ q1 q2 (g4.trip.trans q3) (((Same.put a o.dst u).mono fun j hj => asgOps_head hj).trans (q4.mono fun j hj => asgOps_tail hj))
    · rw [if_neg (by simp [hw])]
      have hst : St C.RT E H fp w (putO F o.dst (.at .und)) (a.put o.dst undef) nx n :=
        ⟨st.sim, st.fresh, st.rf.put (fun t ht => by rw [st.size]; exact hd1 t ht) R.und, by rw [Act.put_size]; exact st.size, by cases o.dst <;> exact st.df⟩
      exact evOps_sound hC hinl hk hst hd2 fun F2 H2 nx2 E2 fp2 a2 w2 q1 q2 q3 q4 =>
        hQ _ _ _ _ _ _ _ q1 q2 q3 (((Same.put a o.dst undef).mono fun j hj => asgOps_head hj).trans (q4.mono fun j hj => asgOps_tail hj))

end Go.Eng
