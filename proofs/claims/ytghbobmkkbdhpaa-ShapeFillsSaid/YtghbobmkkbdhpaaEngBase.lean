/-
  The engine, part six: a state under the names of a shape.
  Conditions: none; nothing is claimed of the program here.
-/
import Derived.Test.YtghbobmkkbdhpaaEngMatch
set_option linter.unusedSimpArgs false
set_option linter.unusedVariables false
namespace Go.Eng
variable {RT : RoTab} {E : Env} {F : Fr} {a : Act} {H : Heap} {fp : Fp} {w : World} {P : Program} {Y : Type} {y : Y}

/-- Atoms that name no block. -/
def Simple : Atom → Prop
  | .int _ _ | .bool _ | .str _ | .roi _ _ | .nilp | .nils => True
  | _ => False

/-- Elements that are only read name no block. -/
def RTok (RT : RoTab) : Prop := ∀ tag T i j, RT tag = some T → Simple (T.f i j)

theorem R.simple {E' : Env} {x : Atom} {u : Value} (hM : ∀ ad v, E.M ad = some v → E'.M ad = some v) (hs : Simple x) (h : R RT E x u) : R RT E' x u := by
  cases h with
  | int k n => exact .int k n
  | bool b => exact .bool b
  | str s => exact .str s
  | nilp => exact .nilp
  | nils => exact .nils
  | roi hc hx => exact .roi hc fun i hi => let ⟨ad, h1, h2, h3⟩ := hx i hi; ⟨ad, h1, h2, hM _ _ h3⟩
  | _ => simp [Simple] at hs

def viewInfo (E : Env) : View → Option Info
  | .none => none
  | .whole id => E.info id
  | .part id lo n => (E.info id).map fun I => ⟨I.cb, I.coff + lo, n, n, 1, false⟩
  | .empty => some ⟨0, 0, 0, 0, 1, true⟩

def viewFp (E : Env) (fp : Fp) (v : View) (x : Nat × Nat) : Prop :=
  match v with
  | .none => False
  | .whole id => fp id x
  | .part id lo n => ∃ I, E.info id = some I ∧ Own ⟨I.cb, I.coff + lo, n, n, 1, false⟩ x
  | .empty => False

open Classical in
/-- The environment under a shape's names; what is lent stays as it is. -/
noncomputable def baseE (E : Env) (H : Heap) (fp : Fp) (w : World) (σ : List View) (lent : List Nat) : Env where
  info := fun t => match σ[t]? with
    | some v => viewInfo E v
    | none => none
  M := fun ad => match E.M ad with
    | some v => some v
    | none => if ad.spot = none ∧ ∃ id b, id ∈ lent ∧ H id = some b ∧ fp id (ad.block, ad.off) then w.cell? ad else none

def baseFp (E : Env) (fp : Fp) (σ : List View) : Fp := fun t x => match σ[t]? with
  | some v => viewFp E fp v x
  | none => False

theorem baseE_M {σ : List View} {lent : List Nat} {ad : Addr} {v : Value} (h : E.M ad = some v) : (baseE E H fp w σ lent).M ad = some v := by
  simp [baseE, h]

theorem baseE_none {σ : List View} {lent : List Nat} (hl : noLent lent = true) {ad : Addr} {v : Value} (h : (baseE E H fp w σ lent).M ad = some v) : E.M ad = some v := by
  cases lent with
  | cons => simp [noLent] at hl
  | nil =>
    cases hm : E.M ad with
    | some u => rw [baseE_M hm] at h; exact h
    | none => simp [baseE, hm] at h

/-- What is lent was a block's. -/
theorem baseE_ext {σ : List View} {lent : List Nat} : MExt E H fp w (baseE E H fp w σ lent) := by
  intro ad v h
  cases hm : E.M ad with
  | some u => rw [baseE_M hm] at h; exact Or.inl h
  | none =>
    simp only [baseE, hm] at h
    split at h
    · rename_i hc
      obtain ⟨_, id, b, _, hb, hf⟩ := hc
      exact Or.inr (Or.inr ⟨id, b, hb, hf⟩)
    · simp at h

theorem baseE_info {σ : List View} {lent : List Nat} {t : Nat} {v : View} (h : σ[t]? = some v) : (baseE E H fp w σ lent).info t = viewInfo E v := by
  simp [baseE, h]

theorem baseE_lent {σ : List View} {lent : List Nat} (hs : Sim RT E H fp w) {ad : Addr} {v : Value} {id : Nat} {b : Blk} (hsp : ad.spot = none) (hid : id ∈ lent) (hb : H id = some b)
    (hf : fp id (ad.block, ad.off)) (hc : w.cell? ad = some v) : (baseE E H fp w σ lent).M ad = some v := by
  cases hm : E.M ad with
  | some u =>
    rw [baseE_M hm, ← hc]
    exact (hs.ro ad u hm).2.1.symm
  | none =>
    simp only [baseE, hm]
    rw [if_pos ⟨hsp, id, b, hid, hb, hf⟩]
    exact hc

theorem ro_R {kd : IntKind} {x : Atom} {u : Value} {xs : List Int} {l : Option Nat} {σ : List View} {lent : List Nat} (hs : Sim RT E H fp w) (hx : R RT E x u) (hr : RoA H kd x xs l)
    (hl : ∀ id, l = some id → id ∈ lent) : R RT (baseE E H fp w σ lent) (.roi kd xs) u := by
  obtain ⟨xs', l', h1, ⟨base, cap, rfl, hc, hh⟩, h3⟩ := ro_sound hs hx hr
  simp only [Option.some.injEq, Prod.mk.injEq] at h1
  obtain ⟨rfl, rfl⟩ := h1
  refine R.roi hc fun i hi => ?_
  obtain ⟨ad, hb, hsp, hcell⟩ := hh i hi
  refine ⟨ad, hb, hsp, ?_⟩
  cases l' with
  | none =>
    simp only at h3
    cases h3 with
    | roi _ hx' =>
      obtain ⟨ad', hb', _, hm⟩ := hx' i hi
      rw [hb] at hb'
      obtain rfl := Option.some.inj hb'
      exact baseE_M hm
  | some id =>
    obtain ⟨b, hbk, hfp⟩ := h3
    exact baseE_lent hs rfl (hl id rfl) hbk (hfp base cap ad i rfl hb hi) hcell

theorem All2.get {α β : Type} {r : α → β → Prop} : ∀ {as : List α} {bs : List β}, All2 r as bs → ∀ {j : Nat} {x : α}, as[j]? = some x → ∃ z, bs[j]? = some z ∧ r x z
  | _, _, .nil, j, x, h => by simp at h
  | _, _, .cons hr hs, 0, x, h => by simp at h; subst h; exact ⟨_, rfl, hr⟩
  | _, _, .cons hr hs, j + 1, x, h => by simp at h; simpa using hs.get h

theorem All2.length {α β : Type} {r : α → β → Prop} : ∀ {as : List α} {bs : List β}, All2 r as bs → as.length = bs.length
  | _, _, .nil => rfl
  | _, _, .cons _ hs => by simp [hs.length]

theorem cloA_get : ∀ {ts : List (Nat × Nat)} {j : Nat} {x : Atom}, (cloA ts)[j]? = some x → ∃ q, ts[j]? = some q ∧ x = .ptr q.1 q.2
  | [], j, x, h => by simp [cloA] at h
  | (t, off) :: r, 0, x, h => by simp only [cloA, List.getElem?_cons_zero, Option.some.injEq] at h; exact ⟨(t, off), rfl, h.symm⟩
  | (t, off) :: r, j + 1, x, h => by simp only [cloA, List.getElem?_cons_succ] at h ⊢; exact cloA_get h
theorem cloA_len : ∀ ts : List (Nat × Nat), (cloA ts).length = ts.length
  | [] => rfl
  | (t, off) :: r => by simp [cloA, cloA_len r]

theorem matchA_R {L Lc : Leaves} {σ : List View} {lent : List Nat} {p : Pat} {x : Atom} {u : Value} (hRT : RTok RT) (hs : Sim RT E H fp w) (hm : MatchA H L Lc σ lent p x) (hx : R RT E x u) :
    R RT (baseE E H fp w σ lent) (fAtom L Lc p) u := by
  cases p with
  | unk => exact .unk u
  | bool h => simp only [MatchA] at hm; subst hm; rw [R.bool_inv hx]; exact .bool _
  | int k h => simp only [MatchA] at hm; subst hm; rw [R.int_inv hx]; exact .int _ _
  | fbool h => simp only [MatchA] at hm; subst hm; rw [R.bool_inv hx]; exact .bool _
  | fint k h => simp only [MatchA] at hm; subst hm; rw [R.int_inv hx]; exact .int _ _
  | roi k h => obtain ⟨l, h1, h2⟩ := hm; exact ro_R hs hx h1 h2
  | froi k h => obtain ⟨l, h1, h2⟩ := hm; exact ro_R hs hx h1 h2
  | nilp => simp only [MatchA] at hm; subst hm; cases hx; exact .nilp
  | nils => simp only [MatchA] at hm; subst hm; cases hx; exact .nils
  | ptr t off =>
    obtain ⟨id, rfl, hv⟩ := hm
    cases hx with
    | ptr h => exact R.ptr (by rw [baseE_info hv]; exact h)
  | full t nn =>
    rcases hm with ⟨id, nn', rfl, hn, hv⟩ | ⟨rfl, id, lo, n, rfl, hv⟩ | ⟨rfl, rfl, hv⟩
    · cases hx with
      | full h hb hn' hc hg => exact R.full (by rw [baseE_info hv]; exact h) hb (fun h => hn' (hn h)) hc hg
    · cases hx with
      | sub h hw hl hc hb =>
        rename_i cap I base
        refine R.full (I := ⟨I.cb, I.coff + lo, n, n, 1, false⟩) (by rw [baseE_info hv]; simp [viewInfo, h]) ?_ (fun h => by simp at h) hc (fun h => by simp at h)
        rcases hb with hb | h0
        · left; rw [hb, hw, Nat.mul_one]
        · right; exact ⟨h0, fun h => by simp at h⟩
    · cases hx
      exact R.full (I := ⟨0, 0, 0, 0, 1, true⟩) (by rw [baseE_info hv]; rfl) (Or.inr ⟨rfl, fun _ => rfl⟩) (fun h => by simp at h) (Nat.le_refl _) (fun _ => rfl)
  | ror tag =>
    simp only [MatchA] at hm
    subst hm
    cases hx with
    | ror uu hT hc hx hr =>
      exact R.ror uu hT hc (fun i j hi hj => let ⟨ad, h1, h2, h3⟩ := hx i j hi hj; ⟨ad, h1, h2, baseE_M h3⟩) fun i j hi hj => (hr i j hi hj).simple (fun _ _ h => baseE_M h) (hRT _ _ _ _ hT)
  | fn f =>
    simp only [MatchA] at hm
    subst hm
    cases hx with
    | fn hn hr => exact R.fn hn fun j x hj => by simp at hj
  | ifp ty t off =>
    obtain ⟨id, rfl, hv⟩ := hm
    cases hx with
    | ifa hr =>
      cases hr with
      | ptr h => exact R.ifa (R.ptr (by rw [baseE_info hv]; exact h))
  | fsub t h1 h2 =>
    obtain ⟨id, rfl, hv⟩ := hm
    cases hx with
    | sub h hw hl hc hb => exact R.sub (by rw [baseE_info hv]; exact h) hw hl hc hb
  | clo f ts =>
    obtain ⟨cs, rfl, hq⟩ := hm
    cases hx with
    | fn hn hr =>
      refine R.fn (by rw [hn, cloA_len]; exact hq.length.symm) fun j x hj => ?_
      obtain ⟨q, hts, rfl⟩ := cloA_get hj
      obtain ⟨c, hc, id, rfl, hv⟩ := hq.get hts
      obtain ⟨I, hI, hu⟩ := R.ptr_inv (hr j _ hc)
      rw [hu]
      exact R.ptr (by rw [baseE_info hv]; exact hI)

theorem fAtoms_eq (L Lc : Leaves) : ∀ ps : List Pat, fAtoms L Lc ps = ps.map (fAtom L Lc)
  | [] => rfl
  | p :: ps => by simp [fAtoms, fAtoms_eq L Lc ps]

theorem matchAs_RCs {L Lc : Leaves} {σ : List View} {lent : List Nat} {ps : List Pat} {xs : List Atom} {vs : Array Value} (hRT : RTok RT) (hs : Sim RT E H fp w) (hm : MatchAs H L Lc σ lent ps xs)
    (hc : RCs RT E xs vs) : RCs RT (baseE E H fp w σ lent) (fAtoms L Lc ps) vs := by
  rw [fAtoms_eq]
  refine ⟨by rw [hc.1, ← hm.length]; simp, fun j x hj => ?_⟩
  rw [List.getElem?_map] at hj
  cases hp : ps[j]? with
  | none => simp [hp] at hj
  | some p =>
    simp [hp] at hj
    subst hj
    obtain ⟨z, hz, hr⟩ := hm.get hp
    exact matchA_R hRT hs hr (hc.2 _ _ hz)

theorem matchV_RV {L Lc : Leaves} {σ : List View} {lent : List Nat} {p : VPat} {x : AV} {u : Value} (hRT : RTok RT) (hs : Sim RT E H fp w) (hm : MatchV H L Lc σ lent p x) (hx : RV RT E x u) :
    RV RT (baseE E H fp w σ lent) (fAV L Lc p) u := by
  cases p with
  | «at» p =>
    have key : (∃ b, x = .at b ∧ MatchA H L Lc σ lent p b) → RV RT (baseE E H fp w σ lent) (fAV L Lc (.at p)) u := by
      rintro ⟨b, rfl, hm'⟩
      exact matchA_R (x := b) hRT hs hm' hx
    cases p <;> first | exact R.unk u | exact key hm
  | agg ps =>
    obtain ⟨as, rfl, hm⟩ := hm
    obtain ⟨vs, rfl, hc⟩ := hx
    exact ⟨vs, rfl, matchAs_RCs hRT hs hm hc⟩
  | tup ps =>
    obtain ⟨as, rfl, hm⟩ := hm
    obtain ⟨vs, rfl, hn, hc⟩ := hx
    have hft : ∀ ps : List (Bool × List Pat), fTup L Lc ps = ps.map fun p => (p.1, fAtoms L Lc p.2) := by
      intro ps
      induction ps with
      | nil => rfl
      | cons p ps ih => obtain ⟨g, q⟩ := p; simp [fTup, ih]
    refine ⟨vs, rfl, by rw [hn, hft, ← hm.length]; simp, fun j q hj => ?_⟩
    rw [hft, List.getElem?_map] at hj
    cases hp : ps[j]? with
    | none => simp [hp] at hj
    | some p =>
      simp [hp] at hj
      subst hj
      obtain ⟨⟨g, z⟩, hz, hg, hr⟩ := hm.get hp
      obtain ⟨g', q⟩ := p
      simp only at hg hr
      subst hg
      have hrp := hc _ _ hz
      cases g' with
      | true =>
        obtain ⟨vs', he, hc'⟩ := hrp
        exact ⟨vs', he, matchAs_RCs hRT hs hr hc'⟩
      | false =>
        match z, hrp, hr with
        | [b], hrp, .cons hb .nil => exact matchA_R (x := b) hRT hs hb hrp

theorem fHeap_get (L Lc : Leaves) (H0 : Heap) : ∀ {blks : List (Nat × BPat)} {t : Nat} {b : Blk}, fHeap L Lc H0 blks t = some b →
    (∃ q ∈ blks, q.1 = t ∧ fBlk L Lc q.2 = some b) ∨ (H0 t = some b ∧ ∀ q ∈ blks, q.1 ≠ t)
  | [], t, b, h => Or.inr ⟨h, fun q hq => by simp at hq⟩
  | (t', p) :: r, t, b, h => by
    simp only [fHeap] at h
    rw [putH_eq] at h
    split at h
    · rename_i ht; exact Or.inl ⟨(t', p), by simp, ht.symm, h⟩
    · rename_i ht
      rcases fHeap_get L Lc H0 h with ⟨q, hq, h1, h2⟩ | ⟨h1, h2⟩
      · exact Or.inl ⟨q, by simp [hq], h1, h2⟩
      · refine Or.inr ⟨h1, fun q hq => ?_⟩
        rcases List.mem_cons.1 hq with rfl | hq
        · exact fun he => ht he.symm
        · exact h2 q hq

def viewId : View → Option Nat
  | .whole id => some id
  | .part id _ _ => some id
  | _ => none

theorem beq_ne {a b : Nat} (h : (!Nat.beq a b) = true) : a ≠ b := by
  intro he
  subst he
  simp at h

theorem apartId_get {id : Nat} : ∀ {vs : List View} {t : Nat} {v : View} {id' : Nat}, apartId id vs = true → vs[t]? = some v → viewId v = some id' → id ≠ id'
  | [], t, v, id', _, h, _ => by simp at h
  | v0 :: vs, 0, v, id', h, hv, hi => by
    simp at hv
    subst hv
    cases v0 with
    | whole i => simp only [viewId, Option.some.injEq] at hi; subst hi; simp only [apartId, Bool.and_eq_true] at h; exact beq_ne h.1
    | part i lo n => simp only [viewId, Option.some.injEq] at hi; subst hi; simp only [apartId, Bool.and_eq_true] at h; exact beq_ne h.1
    | _ => simp [viewId] at hi
  | v0 :: vs, t + 1, v, id', h, hv, hi => by
    simp at hv
    refine apartId_get (vs := vs) ?_ hv hi
    cases v0 <;> simp only [apartId, Bool.and_eq_true] at h <;> first | exact h.2 | exact h

theorem viewsApart_get : ∀ {vs : List View} {t t' : Nat} {v v' : View} {id id' : Nat}, viewsApart vs = true → t < t' → vs[t]? = some v → vs[t']? = some v' →
    viewId v = some id → viewId v' = some id' → id ≠ id'
  | [], t, t', v, v', id, id', _, _, h, _, _, _ => by simp at h
  | v0 :: vs, 0, t' + 1, v, v', id, id', h, _, hv, hv', hi, hi' => by
    simp at hv hv'
    subst hv
    cases v0 with
    | whole i => simp only [viewId, Option.some.injEq] at hi; subst hi; simp only [viewsApart, Bool.and_eq_true] at h; exact apartId_get h.1 hv' hi'
    | part i lo n => simp only [viewId, Option.some.injEq] at hi; subst hi; simp only [viewsApart, Bool.and_eq_true] at h; exact apartId_get h.1 hv' hi'
    | _ => simp [viewId] at hi
  | v0 :: vs, 0, 0, v, v', id, id', _, hlt, _, _, _, _ => by omega
  | v0 :: vs, t + 1, t' + 1, v, v', id, id', h, hlt, hv, hv', hi, hi' => by
    simp at hv hv'
    refine viewsApart_get (vs := vs) ?_ (by omega) hv hv' hi hi'
    cases v0 <;> simp only [viewsApart, Bool.and_eq_true] at h <;> first | exact h.2 | exact h
  | v0 :: vs, t + 1, 0, v, v', id, id', _, hlt, _, _, _, _ => by omega

theorem viewsApart_ne {vs : List View} {t t' : Nat} {v v' : View} {id id' : Nat} (h : viewsApart vs = true) (ht : t ≠ t') (hv : vs[t]? = some v) (hv' : vs[t']? = some v')
    (hi : viewId v = some id) (hi' : viewId v' = some id') : id ≠ id' := by
  rcases Nat.lt_or_ge t t' with hl | hl
  · exact viewsApart_get h hl hv hv' hi hi'
  · exact (viewsApart_get h (by omega) hv' hv hi' hi).symm

theorem lentApart_get {σ : List View} : ∀ {l : List Nat} {id t : Nat} {v : View} {id' : Nat}, lentApart σ l = true → id ∈ l → σ[t]? = some v → viewId v = some id' → id ≠ id'
  | [], id, t, v, id', _, h, _, _ => by simp at h
  | i :: l, id, t, v, id', h, hm, hv, hi => by
    simp only [lentApart, Bool.and_eq_true] at h
    rcases List.mem_cons.1 hm with rfl | hm
    · exact apartId_get h.1 hv hi
    · exact lentApart_get h.2 hm hv hi

/-- Where the cells of a view lie: in those of its block. -/
theorem viewFp_sub {v : View} {x : Nat × Nat} (hs : Sim RT E H fp w) {p : BPat} {L Lc : Leaves} {σ : List View} {lent : List Nat} (hm : MatchB H L Lc σ lent p v) (hlo : ∀ id lo n g kd xs, v = .part id lo n → H id = some (.ints g kd xs) → lo + n ≤ xs.length)
    (hx : viewFp E fp v x) : ∃ id b, viewId v = some id ∧ H id = some b ∧ fp id x := by
  cases v with
  | none => exact hx.elim
  | empty => exact hx.elim
  | whole id =>
    cases p with
    | cells wd ps => obtain ⟨cs, hb, _⟩ := hm; exact ⟨id, _, rfl, hb, hx⟩
    | ints g k h => obtain ⟨g', hb, _⟩ := hm; exact ⟨id, _, rfl, hb, hx⟩
    | fints g k h => obtain ⟨g', hb, _⟩ := hm; exact ⟨id, _, rfl, hb, hx⟩
    | recs g T h =>
      rcases hm with ⟨g', hb, _⟩ | ⟨_, kd, xss, i, b, gb, ys, _, hb, _⟩
      · exact ⟨id, _, rfl, hb, hx⟩
      · exact ⟨id, _, rfl, hb, hx⟩
    | frecs g T h => obtain ⟨g', hb, _⟩ := hm; exact ⟨id, _, rfl, hb, hx⟩
    | fhole k h hi t => obtain ⟨b, hb, _⟩ := hm; exact ⟨id, _, rfl, hb, hx⟩
    | dead => exact hm.elim
  | part id lo n =>
    have hb : ∃ g' kd xs, H id = some (.ints g' kd xs) := by
      cases p with
      | ints g k h => obtain ⟨_, g', xs, hb, _⟩ := hm; exact ⟨g', _, xs, hb⟩
      | fints g k h => obtain ⟨_, g', xs, hb, _⟩ := hm; exact ⟨g', _, xs, hb⟩
      | _ => exact hm.elim
    obtain ⟨g', kd, xs, hb⟩ := hb
    obtain ⟨I, hI, ho⟩ := hx
    obtain ⟨J, hJ, ok⟩ := hs.blk _ _ hb
    rw [hI] at hJ
    obtain rfl := Option.some.inj hJ
    have hl := hlo _ _ _ _ _ _ rfl hb
    refine ⟨id, _, rfl, hb, (ok.own _).2 ?_⟩
    obtain ⟨h1, h2, h3⟩ := ho
    obtain ⟨hw, hn, _⟩ := ok.kind
    have hc := ok.cap
    simp only [Bool.false_eq_true, if_false, Nat.mul_one] at h1 h2 h3
    refine ⟨h1, by omega, ?_⟩
    rw [hw]
    split <;> omega

/-- A STATE UNDER A SHAPE'S NAMES. -/
theorem Sim.base {L Lc : Leaves} {σ : List View} {lent : List Nat} {blks : List (Nat × BPat)} (hRT : RTok RT) (hs : Sim RT E H fp w)
    (hm : ∀ q ∈ blks, q.2 = .dead ∨ ∃ v, σ[q.1]? = some v ∧ MatchB H L Lc σ lent q.2 v) (ha : viewsApart σ = true) (hl : lentApart σ lent = true)
    (hp : ∀ (t id lo n : Nat) g kd xs, σ[t]? = some (.part id lo n) → H id = some (.ints g kd xs) → lo + n ≤ xs.length) :
    Sim RT (baseE E H fp w σ lent) (fHeap L Lc noHeap blks) (baseFp E fp σ) w := by
  have hget : ∀ {t : Nat} {b : Blk}, fHeap L Lc noHeap blks t = some b → ∃ q v, q ∈ blks ∧ q.1 = t ∧ fBlk L Lc q.2 = some b ∧ σ[t]? = some v ∧ MatchB H L Lc σ lent q.2 v := by
    intro t b hb
    rcases fHeap_get L Lc noHeap hb with ⟨q, hq, rfl, h2⟩ | ⟨h1, _⟩
    · rcases hm q hq with hd | ⟨v, h3, h4⟩
      · rw [hd] at h2; simp [fBlk] at h2
      · exact ⟨q, v, hq, rfl, h2, h3, h4⟩
    · simp [noHeap] at h1
  have hsub : ∀ {t : Nat} {b : Blk} {x : Nat × Nat}, fHeap L Lc noHeap blks t = some b → baseFp E fp σ t x → ∃ v id b', σ[t]? = some v ∧ viewId v = some id ∧ H id = some b' ∧ fp id x := by
    intro t b x hb hx
    obtain ⟨q, v, _, _, _, hv, hM⟩ := hget hb
    simp only [baseFp, hv] at hx
    obtain ⟨id, b', h1, h2, h3⟩ := viewFp_sub hs hM (fun id lo n g kd xs he hb' => by subst he; exact hp _ _ _ _ _ _ _ hv hb') hx
    exact ⟨v, id, b', hv, h1, h2, h3⟩
  refine ⟨fun t b hb => ?_, fun i j b c x hb hc hij hx hy => ?_, fun ad v h => ?_⟩
  · obtain ⟨⟨t', p⟩, v, hq, ht, hfb, hv, hM⟩ := hget hb
    simp only at ht hfb hM
    subst ht
    cases v with
    | none => cases p <;> exact hM.elim
    | whole id =>
      have key : ∀ b0, H id = some b0 → ∃ I, (baseE E H fp w σ lent).info t' = some I ∧ BlkOK RT E b0 I (fp id) w := by
        intro b0 hb0
        obtain ⟨I, hI, ok⟩ := hs.blk _ _ hb0
        exact ⟨I, by rw [baseE_info hv]; exact hI, ok⟩
      have hfp : baseFp E fp σ t' = fp id := by funext x; simp [baseFp, hv, viewFp]
      rw [hfp]
      cases p with
      | cells wd ps =>
        obtain ⟨cs, hb0, hma⟩ := hM
        obtain ⟨I, hI, ok⟩ := key _ hb0
        simp only [fBlk, Option.some.injEq] at hfb
        subst hfb
        obtain ⟨k1, k2, k3, k4⟩ := ok.kind
        refine ⟨I, hI, ⟨ok.own, ok.cap, ok.live, k1, by rw [k2, fAtoms_eq, ← hma.length]; simp, k3, fun j x hj => ?_⟩⟩
        rw [fAtoms_eq, List.getElem?_map] at hj
        cases hpj : ps[j]? with
        | none => simp [hpj] at hj
        | some p =>
          simp [hpj] at hj
          subst hj
          obtain ⟨z, hz, hr⟩ := hma.get hpj
          obtain ⟨u, hu, hru⟩ := k4 j z hz
          exact ⟨u, hu, matchA_R hRT hs hr hru⟩
      | ints g kd h =>
        obtain ⟨g', hb0, hgg⟩ := hM
        obtain ⟨I, hI, ok⟩ := key _ hb0
        simp only [fBlk, Option.some.injEq] at hfb
        subst hfb
        obtain ⟨k1, k2, k3, k4⟩ := ok.kind
        exact ⟨I, hI, ⟨ok.own, ok.cap, ok.live, k1, k2, fun h => k3 (hgg h), k4⟩⟩
      | fints g kd h =>
        obtain ⟨g', hb0, hgg⟩ := hM
        obtain ⟨I, hI, ok⟩ := key _ hb0
        simp only [fBlk, Option.some.injEq] at hfb
        subst hfb
        obtain ⟨k1, k2, k3, k4⟩ := ok.kind
        exact ⟨I, hI, ⟨ok.own, ok.cap, ok.live, k1, k2, fun h => k3 (hgg h), k4⟩⟩
      | recs g T h =>
        simp only [fBlk, Option.some.injEq] at hfb
        subst hfb
        rcases hM with ⟨g', hb0, hgg⟩ | ⟨rfl, kd, xss, i0, b0, gb, ys, rfl, hb0, hbb, hlent, hr⟩
        · obtain ⟨I, hI, ok⟩ := key _ hb0
          obtain ⟨k1, k2, k3, k4⟩ := ok.kind
          exact ⟨I, hI, ⟨ok.own, ok.cap, ok.live, k1, k2, fun h => k3 (hgg h), fun i j x hi hj => let ⟨u, hu, hru⟩ := k4 i j x hi hj; ⟨u, hu, recA_R hj (fun _ _ h => baseE_M h) hru⟩⟩⟩
        · obtain ⟨I, hI, ok⟩ := key _ hb0
          obtain ⟨k1, k2, k3⟩ := ok.kind
          refine ⟨I, hI, ⟨ok.own, ok.cap, ok.live, k1, by rw [hr, List.length_set]; exact k2, fun h => by simp at h, fun i j x hi hj => ?_⟩⟩
          rw [hr, List.length_set] at hi
          obtain ⟨u, hu, hru⟩ := k3 i hi
          cases j with
          | succ j => simp [recA, recAs] at hj
          | zero =>
            simp only [recA, recAs, List.getElem?_cons_zero, Option.some.injEq] at hj
            subst hj
            refine ⟨u, by rw [k1, Nat.mul_one, Nat.add_zero]; exact hu, ?_⟩
            rw [hr]
            by_cases hii : i = i0
            · subst hii
              rw [if_pos rfl] at hru
              have hm : MatchA H ⟨L.i, L.b, fun _ => ys, L.r⟩ Lc σ lent (.roi kd 0) (.full b0 true) := ⟨some b0, by simp [RoA, roA, hbb, gate, eqK_iff.2 rfl], fun id hid => by simp at hid; subst hid; exact hlent⟩
              have := matchA_R hRT hs hm hru
              simp only [fAtom] at this
              rw [List.getD_eq_getElem?_getD, List.getElem?_set_self hi]
              exact this
            · rw [if_neg hii] at hru
              rw [List.getD_eq_getElem?_getD, List.getElem?_set_ne (Ne.symm hii), ← List.getD_eq_getElem?_getD]
              exact roi_R (fun _ _ h => baseE_M h) hru
      | frecs g T h =>
        obtain ⟨g', hb0, hgg⟩ := hM
        simp only [fBlk, Option.some.injEq] at hfb
        subst hfb
        obtain ⟨I, hI, ok⟩ := key _ hb0
        obtain ⟨k1, k2, k3, k4⟩ := ok.kind
        exact ⟨I, hI, ⟨ok.own, ok.cap, ok.live, k1, k2, fun h => k3 (hgg h), fun i j x hi hj => let ⟨u, hu, hru⟩ := k4 i j x hi hj; ⟨u, hu, recA_R hj (fun _ _ h => baseE_M h) hru⟩⟩⟩
      | fhole kd h hi t =>
        obtain ⟨b0, hb0, hv0⟩ := hM
        simp only [fBlk, Option.some.injEq] at hfb
        subst hfb
        obtain ⟨I, hI, ok⟩ := key _ hb0
        obtain ⟨k1, k2, k3⟩ := ok.kind
        refine ⟨I, hI, ⟨ok.own, ok.cap, ok.live, k1, k2, fun i hi => ?_⟩⟩
        obtain ⟨u, hu, hru⟩ := k3 i hi
        refine ⟨u, hu, ?_⟩
        split at hru
        · rename_i he
          rw [if_pos he]
          have hm : MatchA H L Lc σ lent (.full t true) (.full b0 true) := Or.inl ⟨b0, true, rfl, fun _ => rfl, hv0⟩
          exact matchA_R hRT hs hm hru
        · rename_i he
          rw [if_neg he]
          exact roi_R (fun _ _ h => baseE_M h) hru
      | dead => exact hM.elim
    | part id lo n =>
      have key : ∀ g kd xs zs, H id = some (.ints g kd xs) → zs = (xs.drop lo).take n → ∃ I, (baseE E H fp w σ lent).info t' = some I ∧ BlkOK RT (baseE E H fp w σ lent) (.ints false kd zs) I (baseFp E fp σ t') w := by
        intro g kd xs zs hb0 hzs
        have hln := hp _ _ _ _ _ _ _ hv hb0
        obtain ⟨I, hI, ok⟩ := hs.blk _ _ hb0
        obtain ⟨k1, k2, k3, k4⟩ := ok.kind
        have hc := ok.cap
        have hlen : zs.length = n := by rw [hzs]; simp; omega
        refine ⟨⟨I.cb, I.coff + lo, n, n, 1, false⟩, by rw [baseE_info hv]; simp [viewInfo, hI], ⟨fun x => ?_, Nat.le_refl _, fun x hx => ?_, rfl, hlen.symm, fun h => by simp at h, fun j hj => ?_⟩⟩
        · simp [baseFp, hv, viewFp, hI]
        · simp only [baseFp, hv, viewFp, hI, Option.some.injEq, exists_eq_left'] at hx
          obtain ⟨h1, h2, h3⟩ := hx
          simp only [Bool.false_eq_true, if_false, Nat.mul_one] at h1 h2 h3
          refine ok.live x ((ok.own x).2 ⟨h1, by omega, ?_⟩)
          rw [k1]
          split <;> omega
        · have hj' : j < n := by omega
          have := k4 (lo + j) (by omega)
          simp only
          rw [Nat.add_assoc, this, hzs]
          simp [List.getD_eq_getElem?_getD, List.getElem?_take_of_lt hj', List.getElem?_drop]
      cases p with
      | ints g kd h =>
        obtain ⟨rfl, g', xs, hb0, hz⟩ := hM
        simp only [fBlk, Option.some.injEq] at hfb
        subst hfb
        exact key _ _ _ _ hb0 hz
      | fints g kd h =>
        obtain ⟨rfl, g', xs, hb0, hz⟩ := hM
        simp only [fBlk, Option.some.injEq] at hfb
        subst hfb
        exact key _ _ _ _ hb0 hz
      | _ => exact hM.elim
    | empty =>
      have key : ∀ g kd zs, zs = [] → ∃ I, (baseE E H fp w σ lent).info t' = some I ∧ BlkOK RT (baseE E H fp w σ lent) (.ints g kd zs) I (baseFp E fp σ t') w := by
        rintro g kd zs rfl
        refine ⟨⟨0, 0, 0, 0, 1, true⟩, by rw [baseE_info hv]; rfl, ⟨fun x => ?_, Nat.le_refl _, fun x hx => ?_, rfl, rfl, fun _ => rfl, fun j hj => by simp at hj⟩⟩
        · simp [baseFp, hv, viewFp, Own]
        · simp [baseFp, hv, viewFp] at hx
      cases p with
      | ints g kd h => simp only [fBlk, Option.some.injEq] at hfb; subst hfb; exact key _ _ _ hM
      | fints g kd h => simp only [fBlk, Option.some.injEq] at hfb; subst hfb; exact key _ _ _ hM
      | _ => exact hM.elim
  · obtain ⟨v, id, b', h1, h2, h3, h4⟩ := hsub hb hx
    obtain ⟨v', id', b'', g1, g2, g3, g4⟩ := hsub hc hy
    exact hs.disj _ _ _ _ x h3 g3 (viewsApart_ne ha hij h1 g1 h2 g2) h4 g4
  · cases hm' : E.M ad with
    | some u =>
      rw [baseE_M hm'] at h
      obtain rfl := Option.some.inj h
      obtain ⟨h1, h2, h3⟩ := hs.ro ad u hm'
      refine ⟨h1, h2, fun t b hb hx => ?_⟩
      obtain ⟨v, id, b', _, _, g3, g4⟩ := hsub hb hx
      exact h3 id b' g3 g4
    | none =>
      simp only [baseE, hm'] at h
      split at h
      · rename_i hc
        obtain ⟨hsp, id, b, hid, hb, hf⟩ := hc
        refine ⟨hsp, h, fun t b' hb' hx => ?_⟩
        obtain ⟨v, id', b'', g1, g2, g3, g4⟩ := hsub hb' hx
        exact hs.disj _ _ _ _ _ hb g3 (lentApart_get hl hid g1 g2) hf g4
      · simp at h

end Go.Eng
