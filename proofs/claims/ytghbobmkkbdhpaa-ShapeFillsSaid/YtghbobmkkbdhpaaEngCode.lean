/-
  The engine, part thirteen: code.
  Conditions: none; nothing is claimed of the program here.
-/
import Derived.Test.YtghbobmkkbdhpaaEngLoop
import Derived.Test.YtghbobmkkbdhpaaEngMk
set_option linter.unusedSimpArgs false
set_option linter.unusedVariables false
namespace Go.Eng
variable {RT : RoTab} {E : Env} {F : Fr} {a : Act} {H : Heap} {fp : Fp} {w : World} {P : Program} {Y : Type} {y : Y} {C : Cfg}

/-! ### Behind a loop -/
theorem allLive_get : ∀ {l : List (Nat × BPat)} {q : Nat × BPat}, allLive l = true → q ∈ l → q.2 ≠ .dead
  | [], q, _, h => by simp at h
  | (t, p) :: r, q, h, hm => by
    have hh : p ≠ .dead ∧ allLive r = true := by
      cases p <;> simp [allLive] at h ⊢ <;> exact h
    rcases List.mem_cons.1 hm with rfl | hm
    · exact hh.1
    · exact allLive_get hh.2 hm

/-- Values that look at no memory that stays. -/
theorem noRo_R {E' : Env} {L Lc : Leaves} {p : Pat} {u : Value} (hi : ∀ t I, E.info t = some I → E'.info t = some I) (hp : noRo p = true) (h : R RT E (fAtom L Lc p) u) : R RT E' (fAtom L Lc p) u := by
  cases p with
  | unk => exact .unk u
  | bool i => rw [R.bool_inv h]; exact .bool _
  | int k i => rw [R.int_inv h]; exact .int _ _
  | fbool i => rw [R.bool_inv h]; exact .bool _
  | fint k i => rw [R.int_inv h]; exact .int _ _
  | roi k i => simp [noRo] at hp
  | froi k i => simp [noRo] at hp
  | nilp => simp only [fAtom] at h ⊢; cases h; exact .nilp
  | nils => simp only [fAtom] at h ⊢; cases h; exact .nils
  | ptr t off => simp only [fAtom] at h ⊢; cases h with | ptr h => exact .ptr (hi _ _ h)
  | full t nn => simp only [fAtom] at h ⊢; cases h with | full h hb hn hc hg => exact .full (hi _ _ h) hb hn hc hg
  | ror tag => simp [noRo] at hp
  | fn f => simp only [fAtom] at h ⊢; cases h with | fn hn hr => exact .fn hn fun j x hj => by simp at hj
  | ifp ty t off => simp only [fAtom] at h ⊢; cases h with | ifa hr => cases hr with | ptr h => exact .ifa (.ptr (hi _ _ h))
  | fsub t h1 h2 => simp only [fAtom] at h ⊢; cases h with | sub h hw hl hc hb => exact .sub (hi _ _ h) hw hl hc hb
  | clo f ts =>
    simp only [fAtom] at h ⊢
    cases h with
    | fn hn hr =>
      refine R.fn hn fun j x hj => ?_
      obtain ⟨q, hts, rfl⟩ := cloA_get hj
      obtain ⟨I, hI, hu⟩ := R.ptr_inv (hr j _ hj)
      rw [hu]
      exact R.ptr (hi _ _ hI)

theorem noRos_get : ∀ {ps : List Pat} {p : Pat}, noRos ps = true → p ∈ ps → noRo p = true
  | [], p, _, h => by simp at h
  | q :: r, p, h, hm => by
    simp only [noRos, Bool.and_eq_true] at h
    rcases List.mem_cons.1 hm with rfl | hm
    · exact h.1
    · exact noRos_get h.2 hm

theorem noRoS_get : ∀ {ps : List (Nat × VPat)} {q : Nat × VPat}, noRoS ps = true → q ∈ ps → noRoV q.2 = true
  | [], p, _, h => by simp at h
  | (t, p') :: r, q, h, hm => by
    simp only [noRoS, Bool.and_eq_true] at h
    rcases List.mem_cons.1 hm with rfl | hm
    · exact h.1
    · exact noRoS_get h.2 hm

theorem noRoB_get : ∀ {bs : List (Nat × BPat)} {q : Nat × BPat} {wd : Nat} {ps : List Pat}, noRoB bs = true → q ∈ bs → q.2 = .cells wd ps → noRos ps = true
  | [], q, _, _, _, h, _ => by simp at h
  | (t, p) :: r, q, wd, ps, h, hm, he => by
    rcases List.mem_cons.1 hm with rfl | hm
    · simp only at he
      subst he
      simp only [noRoB, Bool.and_eq_true] at h
      exact h.1
    · refine noRoB_get (bs := r) ?_ hm he
      cases p <;> simp only [noRoB, Bool.and_eq_true] at h <;> first | exact h.2 | exact h | exact absurd h (by simp)

theorem noRoB_recs : ∀ {bs : List (Nat × BPat)} {q : Nat × BPat}, noRoB bs = true → q ∈ bs → (∀ g T h, q.2 ≠ .recs g T h) ∧ (∀ g T h, q.2 ≠ .frecs g T h) ∧ (∀ k h hi t, q.2 ≠ .fhole k h hi t)
  | [], q, _, h => by simp at h
  | (t, p) :: r, q, h, hm => by
    rcases List.mem_cons.1 hm with rfl | hm
    · cases p <;> simp_all [noRoB]
    · refine noRoB_recs (bs := r) ?_ hm
      cases p <;> simp only [noRoB, Bool.and_eq_true] at h <;> first | exact h.2 | exact h | exact absurd h (by simp)

theorem noRo_RCs {E' : Env} {L Lc : Leaves} {ps : List Pat} {vs : Array Value} (hi : ∀ t I, E.info t = some I → E'.info t = some I) (hp : noRos ps = true) (h : RCs RT E (fAtoms L Lc ps) vs) :
    RCs RT E' (fAtoms L Lc ps) vs := by
  refine ⟨h.1, fun j x hj => ?_⟩
  have := h.2 j x hj
  rw [fAtoms_eq, List.getElem?_map] at hj
  cases hq : ps[j]? with
  | none => simp [hq] at hj
  | some p =>
    simp [hq] at hj
    subst hj
    exact noRo_R hi (noRos_get hp (List.mem_of_getElem? hq)) this

theorem noRo_RV {E' : Env} {L Lc : Leaves} {p : VPat} {u : Value} (hi : ∀ t I, E.info t = some I → E'.info t = some I) (hp : noRoV p = true) (h : RV RT E (fAV L Lc p) u) : RV RT E' (fAV L Lc p) u := by
  cases p with
  | «at» p => exact noRo_R (p := p) hi hp h
  | agg ps => obtain ⟨vs, rfl, hc⟩ := h; exact ⟨vs, rfl, noRo_RCs hi hp hc⟩
  | tup ps => simp [noRoV] at hp

theorem noRo_blk {E' : Env} {L Lc : Leaves} {p : BPat} {b : Blk} {I : Info} {f : Nat × Nat → Prop} (hi : ∀ t I, E.info t = some I → E'.info t = some I)
    (hp : ∀ wd ps, p = .cells wd ps → noRos ps = true) (hpr : (∀ g T h, p ≠ .recs g T h) ∧ (∀ g T h, p ≠ .frecs g T h) ∧ (∀ k h hi t, p ≠ .fhole k h hi t)) (hb : fBlk L Lc p = some b) (ok : BlkOK RT E b I f w) : BlkOK RT E' b I f w where
  own := ok.own
  cap := ok.cap
  live := ok.live
  kind := by
    have hk := ok.kind
    cases p with
    | cells wd ps =>
      simp only [fBlk, Option.some.injEq] at hb
      subst hb
      refine ⟨hk.1, hk.2.1, hk.2.2.1, fun j x hj => ?_⟩
      obtain ⟨v, hv, hr⟩ := hk.2.2.2 j x hj
      refine ⟨v, hv, ?_⟩
      rw [fAtoms_eq, List.getElem?_map] at hj
      cases hq : ps[j]? with
      | none => simp [hq] at hj
      | some p =>
        simp [hq] at hj
        subst hj
        exact noRo_R hi (noRos_get (hp _ _ rfl) (List.mem_of_getElem? hq)) hr
    | ints g k i => simp only [fBlk, Option.some.injEq] at hb; subst hb; exact hk
    | fints g k i => simp only [fBlk, Option.some.injEq] at hb; subst hb; exact hk
    | recs g T i => exact absurd rfl (hpr.1 g T i)
    | frecs g T i => exact absurd rfl (hpr.2.1 g T i)
    | fhole k i hi t => exact absurd rfl (hpr.2.2 k i hi t)
    | dead => simp [fBlk] at hb

/-- Names that moved are forgotten. -/
theorem scrub_R {E' : Env} {mov : List Nat} {x : Atom} {u : Value} (hi : ∀ t I, t ∉ mov → E.info t = some I → E'.info t = some I) (hM : ∀ a v, E.M a = some v → E'.M a = some v) (hRT : RTok RT)
    (h : R RT E x u) : R RT E' (scrubA mov x) u := by
  have key : ∀ {t : Nat}, mem mov t = false → t ∉ mov := fun {t} hb hm => by rw [mem_iff.2 hm] at hb; simp at hb
  cases h with
  | unk => exact .unk _
  | bool b => exact .bool b
  | int k n => exact .int k n
  | str s => exact .str s
  | nilp => exact .nilp
  | ptr h =>
    simp only [scrubA]
    split
    · exact .unk _
    · rename_i hb; exact .ptr (hi _ _ (key hb) h)
  | eptr h h1 h2 =>
    simp only [scrubA]
    split
    · exact .unk _
    · rename_i hb; exact .eptr (hi _ _ (key hb) h) h1 h2
  | nils => exact .nils
  | full h hb hn hc hg =>
    simp only [scrubA]
    split
    · exact .unk _
    · rename_i hb'; exact .full (hi _ _ (key hb') h) hb hn hc hg
  | sub h hw hl hc hb =>
    simp only [scrubA]
    split
    · exact .unk _
    · rename_i hb'; exact .sub (hi _ _ (key hb') h) hw hl hc hb
  | roi hc hx => exact .roi hc fun i h => let ⟨a, h1, h2, h3⟩ := hx i h; ⟨a, h1, h2, hM _ _ h3⟩
  | ror uu hT hc hx hr =>
    exact .ror uu hT hc (fun i j hi hj => let ⟨a, h1, h2, h3⟩ := hx i j hi hj; ⟨a, h1, h2, hM _ _ h3⟩) fun i j hi hj => (hr i j hi hj).simple hM (hRT _ _ _ _ hT)
  | rop => exact .unk _
  | @fn f cap vs hn hr =>
    cases f with
    | func f =>
      cases cap with
      | nil => exact .fn hn fun j x hj => by simp at hj
      | cons c cs => exact .unk _
    | _ => exact .unk _
  | nilf => exact .nilf
  | nili => exact .nili
  | und => exact .unk _
  | @ifa t x v hr =>
    cases hr with
    | ptr h =>
      simp only [scrubA]
      split
      · exact .unk _
      · rename_i hb; exact .ifa (.ptr (hi _ _ (key hb) h))
    | _ => exact .unk _
  | ifg hn hr => simp only [scrubA]; exact .unk _

theorem scrubAs_eq (mov : List Nat) : ∀ as : List Atom, scrubAs mov as = as.map (scrubA mov)
  | [] => rfl
  | p :: ps => by simp [scrubAs, scrubAs_eq mov ps]

theorem scrubT_eq (mov : List Nat) : ∀ as : List (Bool × List Atom), scrubT mov as = as.map fun p => (p.1, scrubAs mov p.2)
  | [] => rfl
  | (g, p) :: ps => by simp [scrubT, scrubT_eq mov ps]

theorem scrub_RCs {E' : Env} {mov : List Nat} {cs : List Atom} {vs : Array Value} (hi : ∀ t I, t ∉ mov → E.info t = some I → E'.info t = some I) (hM : ∀ a v, E.M a = some v → E'.M a = some v) (hRT : RTok RT)
    (h : RCs RT E cs vs) : RCs RT E' (scrubAs mov cs) vs := by
  rw [scrubAs_eq]
  refine ⟨by rw [h.1]; simp, fun j x hj => ?_⟩
  rw [List.getElem?_map] at hj
  cases hq : cs[j]? with
  | none => simp [hq] at hj
  | some x' =>
    simp [hq] at hj
    subst hj
    exact scrub_R hi hM hRT (h.2 j x' hq)

theorem scrub_RV {E' : Env} {mov : List Nat} {x : AV} {u : Value} (hi : ∀ t I, t ∉ mov → E.info t = some I → E'.info t = some I) (hM : ∀ a v, E.M a = some v → E'.M a = some v) (hRT : RTok RT)
    (h : RV RT E x u) : RV RT E' (scrubAV mov x) u := by
  cases x with
  | «at» x => exact scrub_R (x := x) hi hM hRT h
  | agg cs => obtain ⟨vs, rfl, hc⟩ := h; exact ⟨vs, rfl, scrub_RCs hi hM hRT hc⟩
  | tup ps =>
    obtain ⟨vs, rfl, hn, hc⟩ := h
    refine ⟨vs, rfl, by rw [hn, scrubT_eq]; simp, fun j q hj => ?_⟩
    rw [scrubT_eq, List.getElem?_map] at hj
    cases hq : ps[j]? with
    | none => simp [hq] at hj
    | some q' =>
      simp [hq] at hj
      subst hj
      have := hc j q' hq
      obtain ⟨g, cs⟩ := q'
      cases g with
      | true => obtain ⟨vs', he, hc'⟩ := this; exact ⟨vs', he, scrub_RCs hi hM hRT hc'⟩
      | false =>
        match cs, this with
        | [x], this => exact scrub_R (x := x) hi hM hRT this

theorem scrub_blk {E' : Env} {mov : List Nat} {b b' : Blk} {I : Info} {f : Nat × Nat → Prop} (hi : ∀ t I, t ∉ mov → E.info t = some I → E'.info t = some I) (hM : ∀ a v, E.M a = some v → E'.M a = some v) (hRT : RTok RT)
    (hb : scrubB mov (some b) = some b') (ok : BlkOK RT E b I f w) : BlkOK RT E' b' I f w where
  own := ok.own
  cap := ok.cap
  live := ok.live
  kind := by
    have hk := ok.kind
    cases b with
    | cells wd cs =>
      simp only [scrubB, Option.some.injEq] at hb
      subst hb
      refine ⟨hk.1, by rw [hk.2.1, scrubAs_eq]; simp, hk.2.2.1, fun j x hj => ?_⟩
      rw [scrubAs_eq, List.getElem?_map] at hj
      cases hq : cs[j]? with
      | none => simp [hq] at hj
      | some x' =>
        simp [hq] at hj
        subst hj
        obtain ⟨v, hv, hr⟩ := hk.2.2.2 j x' hq
        exact ⟨v, hv, scrub_R hi hM hRT hr⟩
    | ints g k xs => simp only [scrubB, Option.some.injEq] at hb; subst hb; exact hk
    | recs g T xs =>
      simp only [scrubB, Option.some.injEq] at hb; subst hb
      exact ⟨hk.1, hk.2.1, hk.2.2.1, fun i j x hi hj => let ⟨v, hv, hr⟩ := hk.2.2.2 i j x hi hj; ⟨v, hv, recA_R hj hM hr⟩⟩
    | hole kd xss i0 b0 =>
      simp only [scrubB] at hb
      split at hb
      · simp at hb
      · rename_i hb0
        simp only [Option.some.injEq] at hb; subst hb
        have hnm : b0 ∉ mov := fun hm => by rw [mem_iff.2 hm] at hb0; simp at hb0
        refine ⟨hk.1, hk.2.1, fun i hi' => ?_⟩
        obtain ⟨v, hv, hr⟩ := hk.2.2 i hi'
        refine ⟨v, hv, ?_⟩
        split at hr
        · rename_i he; rw [if_pos he]; cases hr with | full h hb hn hc hg => exact .full (hi _ _ hnm h) hb hn hc hg
        · rename_i he; rw [if_neg he]; exact roi_R hM hr

theorem movOk_get : ∀ {l : List Nat} {t : Nat}, movOk C l = true → t ∈ l → C.hi ≤ t ∨ t ∈ C.mv
  | [], t, _, h => by simp at h
  | t' :: r, t, h, hm => by
    simp only [movOk, Bool.and_eq_true, Bool.or_eq_true] at h
    rcases List.mem_cons.1 hm with rfl | hm
    · exact h.1.imp (by simp) mem_iff.1
    · exact movOk_get h.2 hm

/-- BEHIND A LOOP. -/
theorem behind {A : Ann} {G : List Nat} {c : Code} {Lc L' : Leaves} {nx n : Nat} {E0 : Env} {H0 : Heap} {fp0 : Fp} {Ex : Env} {fpx : Fp} {w' : World} {a' : Act} (hRT : RTok C.RT) (hok : annOk C A = true) (hnx : nx ≤ A.nx)
    (st : St C.RT E H fp w F a nx n) (hE0 : ∀ t, t < A.nx → t ∉ A.mov → E0.info t = E.info t)
    (hown0 : ∀ x, OwnAll H0 fp0 x → ∃ id b, (id ∈ ids A.blks ∨ id ∈ G) ∧ H id = some b ∧ fp id x)
    (sx : St C.RT Ex (fHeap L' Lc noHeap A.xblks) fpx w' (fSlots L' Lc noFr A.xslots) a' A.nx n)
    (hx : ∀ t I, Ex.info t = some I → t < A.nx ∧ t ∈ ids A.blks ∧ (t ∈ A.mov ∨ E0.info t = some I)) (hfrm : Frm w (OwnAll H0 fp0) w')
    (hown : ∀ x, OwnAll (fHeap L' Lc noHeap A.xblks) fpx x → x.1 < w.heap.size → OwnAll H0 fp0 x) (hsame : Same (asg c) a a')
    (hpl : A.plain = false → (∀ ad v, E.M ad = some v → Ex.M ad = some v) ∧ MExt E H0 fp0 w Ex) :
    ∃ E' fp', St C.RT E' (heapBehind A G L' Lc H) fp' w' (frBehind A c L' Lc F) a' A.nx n ∧ Trip C E H fp w nx E' (heapBehind A G L' Lc H) fp' w' A.nx := by
  unfold annOk at hok
  simp only [Bool.and_eq_true] at hok
  obtain ⟨hoL, hoM, hoD, hoX⟩ := hok
  let E' : Env := ⟨fun id => if id < A.nx then (if id ∈ A.mov ∧ id ∈ ids A.blks then Ex.info id else E.info id) else none, if A.plain = true then E.M else Ex.M⟩
  have hMle : ∀ ad v, E.M ad = some v → E'.M ad = some v := by
    intro ad v h
    simp only [E']
    split
    · exact h
    · rename_i hp
      exact (hpl (by simpa using hp)).1 ad v h
  have hMx : A.plain = false → ∀ ad v, Ex.M ad = some v → E'.M ad = some v := by
    intro hp ad v h
    simp only [E', hp]
    exact h
  have hExt : MExt E H0 fp0 w E' := by
    intro ad v h
    simp only [E'] at h
    split at h
    · exact Or.inl h
    · rename_i hp
      exact (hpl (by simpa using hp)).2 ad v h
  let fp' : Fp := fun id => if id ∈ ids A.blks then fpx id else fp id
  have hix : ∀ t I, Ex.info t = some I → E'.info t = some I := by
    intro t I hI
    obtain ⟨h1, h2, h3⟩ := hx t I hI
    simp only [E', if_pos h1]
    split
    · exact hI
    · rename_i hm
      have hm' : t ∉ A.mov := fun h => hm ⟨h, h2⟩
      rcases h3 with h3 | h3
      · exact absurd h3 hm'
      · rw [← hE0 t h1 hm']; exact h3
  have hie : ∀ t I, t ∉ A.mov → E.info t = some I → E'.info t = some I := by
    intro t I hm hI
    have ht : t < A.nx := by
      rcases Nat.lt_or_ge t nx with h | h
      · omega
      · rw [st.fresh t h] at hI; simp at hI
    simp only [E', if_pos ht, if_neg (fun h : t ∈ A.mov ∧ t ∈ ids A.blks => hm h.1)]
    exact hI
  have hfr' : Fresh E' A.nx := fun id hid => by simp only [E']; rw [if_neg (by omega)]
  have hapart : ∀ {id b x}, H id = some b → (id ∉ ids A.blks ∧ id ∉ G) → fp id x → ¬ OwnAll H0 fp0 x := by
    intro id b x hb hn hx' ho
    obtain ⟨id', b', h1, h2, h3⟩ := hown0 x ho
    exact st.sim.disj id id' b b' x hb h2 (fun he => h1.elim (fun h => hn.1 (he ▸ h)) (fun h => hn.2 (he ▸ h))) hx' h3
  have hheap : ∀ {id b}, heapBehind A G L' Lc H id = some b → (id ∈ ids A.blks ∧ fHeap L' Lc noHeap A.xblks id = some b) ∨ ((id ∉ ids A.blks ∧ id ∉ G) ∧ ∃ b0, H id = some b0 ∧ scrubB A.mov (some b0) = some b) := by
    intro id b hb
    unfold heapBehind at hb
    rcases fHeap_over L' Lc A.xblks id with ⟨h1, h2⟩ | ⟨h1, h2⟩
    · rw [h2] at hb
      obtain ⟨I, hI, _⟩ := sx.sim.blk id b hb
      exact Or.inl ⟨(hx id I hI).2.1, hb⟩
    · rw [h2] at hb
      split at hb
      · simp at hb
      · rename_i hm
        have hn : id ∉ ids A.blks ∧ id ∉ G := ⟨fun h => by rw [mem_iff.2 h] at hm; simp at hm, fun h => by rw [mem_iff.2 h] at hm; simp at hm⟩
        cases hH : H id with
        | none => rw [hH] at hb; simp [scrubB] at hb
        | some b0 => rw [hH] at hb; exact Or.inr ⟨hn, b0, rfl, hb⟩
  have hown' : ∀ x, OwnAll (heapBehind A G L' Lc H) fp' x → x.1 < w.heap.size → OwnAll H fp x := by
    rintro x ⟨id, b, hb, hx'⟩ hlt
    rcases hheap hb with ⟨h1, h2⟩ | ⟨h1, b0, h2, _⟩
    · simp only [fp', if_pos h1] at hx'
      obtain ⟨id', b', _, h3, h4⟩ := hown0 x (hown x ⟨id, b, h2, hx'⟩ hlt)
      exact ⟨id', b', h3, h4⟩
    · simp only [fp', if_neg h1.1] at hx'
      exact ⟨id, b0, h2, hx'⟩
  refine ⟨E', fp', ⟨⟨fun id b hb => ?_, fun i j b b' x hb hb' hij hxi hxj => ?_, fun ad v hm => ?_⟩, hfr', fun j => ?_, sx.size, sx.df⟩, ⟨fun id I h1 h2 hI => ?_, hMle, ?_, hown', hnx, hfr', ?_⟩⟩
  · rcases hheap hb with ⟨h1, h2⟩ | ⟨h1, b0, h2, h3⟩
    · obtain ⟨I, hI, ok⟩ := sx.sim.blk id b h2
      refine ⟨I, hix _ _ hI, ?_⟩
      simp only [fp', if_pos h1]
      rcases fHeap_get L' Lc noHeap h2 with ⟨q, hq, _, hfb⟩ | ⟨h, _⟩
      · cases hp : A.plain with
        | true =>
          have hp' := hp
          simp only [Ann.plain, Bool.and_eq_true] at hp'
          exact noRo_blk hix (fun wd ps he => noRoB_get hp'.2 hq he) (noRoB_recs hp'.2 hq) hfb ok
        | false => exact ok.mono ⟨hix, hMx hp⟩
      · simp [noHeap] at h
    · obtain ⟨I, hI, ok⟩ := st.sim.blk id b0 h2
      refine ⟨I, ?_, ?_⟩
      · have ht : id < A.nx := by
          rcases Nat.lt_or_ge id nx with h | h
          · omega
          · rw [st.fresh id h] at hI; simp at hI
        simp only [E', if_pos ht, if_neg (fun h : id ∈ A.mov ∧ id ∈ ids A.blks => h1.1 h.2)]
        exact hI
      · simp only [fp', if_neg h1.1]
        exact scrub_blk hie hMle hRT h3 (ok.frm hfrm fun x hx => hapart h2 h1 hx)
  · rcases hheap hb with ⟨h1, h2⟩ | ⟨h1, b0, h2, _⟩ <;> rcases hheap hb' with ⟨g1, g2⟩ | ⟨g1, c0, g2, _⟩
    · simp only [fp', if_pos h1] at hxi
      simp only [fp', if_pos g1] at hxj
      exact sx.sim.disj _ _ _ _ x h2 g2 hij hxi hxj
    · simp only [fp', if_pos h1] at hxi
      simp only [fp', if_neg g1.1] at hxj
      exact hapart g2 g1 hxj (hown x ⟨i, b, h2, hxi⟩ (st.sim.cell_lt g2 hxj))
    · simp only [fp', if_neg h1.1] at hxi
      simp only [fp', if_pos g1] at hxj
      exact hapart h2 h1 hxi (hown x ⟨j, b', g2, hxj⟩ (st.sim.cell_lt h2 hxi))
    · simp only [fp', if_neg h1.1] at hxi
      simp only [fp', if_neg g1.1] at hxj
      exact st.sim.disj _ _ _ _ x h2 g2 hij hxi hxj
  · have hold : ∀ {ad v}, E.M ad = some v → ad.spot = none ∧ w'.cell? ad = some v ∧ ∀ i b, heapBehind A G L' Lc H i = some b → ¬ fp' i (ad.block, ad.off) := by
      intro ad v hm
      obtain ⟨h1, h2, h3⟩ := st.sim.ro ad v hm
      have hno : ¬ OwnAll H0 fp0 (ad.block, ad.off) := by
        intro ho
        obtain ⟨id, b, _, g2, g3⟩ := hown0 _ ho
        exact h3 id b g2 g3
      refine ⟨h1, hfrm.cell h2 hno, fun i b hb hxi => ?_⟩
      rcases hheap hb with ⟨g1, g2⟩ | ⟨g1, b0, g2, _⟩
      · simp only [fp', if_pos g1] at hxi
        exact hno (hown _ ⟨i, b, g2, hxi⟩ (World.block_lt_of_cell? _ _ h2))
      · simp only [fp', if_neg g1.1] at hxi
        exact h3 i b0 g2 hxi
    simp only [E'] at hm
    split at hm
    · exact hold hm
    · rename_i hp
      have hp' : A.plain = false := by simpa using hp
      obtain ⟨h1, h2, h3⟩ := sx.sim.ro ad v hm
      refine ⟨h1, h2, fun i b hb hxi => ?_⟩
      rcases hheap hb with ⟨g1, g2⟩ | ⟨g1, b0, g2, _⟩
      · simp only [fp', if_pos g1] at hxi
        exact h3 i b g2 hxi
      · simp only [fp', if_neg g1.1] at hxi
        rcases (hpl hp').2 ad v hm with hx' | hx' | hx'
        · exact (st.sim.ro ad v hx').2.2 i b0 g2 hxi
        · have := st.sim.cell_lt g2 hxi
          simp only at this
          omega
        · exact hapart g2 g1 hxi hx'
  · unfold frBehind
    have hsx := sx.rf j
    rcases fSlots_get L' Lc A.xslots j with ⟨q, hq, rfl, hv⟩ | hv
    · rw [hv] at hsx ⊢
      cases hp : A.plain with
      | true =>
        have hp' := hp
        simp only [Ann.plain, Bool.and_eq_true] at hp'
        exact noRo_RV hix (noRoS_get hp'.1 hq) hsx
      | false => exact hsx.mono ⟨hix, hMx hp⟩
    · rw [hv]
      split
      · exact R.unk _
      · rename_i hg
        rw [hsame j hg]
        exact scrub_RV hie hMle hRT (st.rf j)
  · refine hie id I ?_ hI
    intro hm
    rcases movOk_get hoM hm with h | h
    · omega
    · exact h2 h
  · exact hfrm.mono fun x ho => let ⟨id, b, _, g2, g3⟩ := hown0 x ho; ⟨id, b, g2, g3⟩
  · intro ad v h
    rcases hExt ad v h with h | h | h
    · exact Or.inl h
    · exact Or.inr (Or.inl h)
    · exact Or.inr (Or.inr (let ⟨id, b, _, g2, g3⟩ := hown0 _ h; ⟨id, b, g2, g3⟩))

theorem dstOps_of {n : Nat} {ops : Array Oper} {id : Nat} {d : Bool} (h : dstsOk n (.region id ops d) = true) : dstOps n ops.toList = true := h

theorem CfgOK.inLoop (hC : CfgOK C) (A : Ann) : CfgOK (C.inLoop A) := ⟨hC.rt, hC.wide, hC.specs, hC.exts, hC.meths, hC.laws⟩

theorem Post.mono_asg {Z : Type} {z : Z} {kr : KS Z} {k : Ex → KS Z} {nx n : Nat} {g g' : Nat → Bool} (hg : ∀ j, g j = true → g' j = true) {e : Exit} {a' : Act} {w' : World}
    (h : Post C z kr k E H fp w nx a n g e a' w') : Post C z kr k E H fp w nx a n g' e a' w' := by
  cases e with
  | normal => obtain ⟨F', H', nx', E', fp', h1, h2, h3, h4⟩ := h; exact ⟨F', H', nx', E', fp', h1, h2, h3, h4.mono hg⟩
  | exit id => obtain ⟨F', H', nx', E', fp', h1, h2, h3, h4⟩ := h; exact ⟨F', H', nx', E', fp', h1, h2, h3, h4.mono hg⟩
  | ret => obtain ⟨F', H', nx', E', fp', h1, h2, h3, h4⟩ := h; exact ⟨F', H', nx', E', fp', h1, h2, h3, h4.mono hg⟩
  | _ => exact h.elim

/-- From a later state on. -/
theorem Post.after {Z : Type} {z : Z} {kr : KS Z} {k : Ex → KS Z} {nx nx1 n : Nat} {g : Nat → Bool} {E1 : Env} {H1 : Heap} {fp1 : Fp} {w1 : World} {a1 : Act}
    (ht : Trip C E H fp w nx E1 H1 fp1 w1 nx1) (hs : Same g a a1) {e : Exit} {a' : Act} {w' : World}
    (h : Post C z kr k E1 H1 fp1 w1 nx1 a1 n g e a' w') : Post C z kr k E H fp w nx a n g e a' w' := by
  cases e with
  | normal => obtain ⟨F', H', nx', E', fp', h1, h2, h3, h4⟩ := h; exact ⟨F', H', nx', E', fp', h1, h2, ht.trans h3, hs.trans h4⟩
  | exit id => obtain ⟨F', H', nx', E', fp', h1, h2, h3, h4⟩ := h; exact ⟨F', H', nx', E', fp', h1, h2, ht.trans h3, hs.trans h4⟩
  | ret => obtain ⟨F', H', nx', E', fp', h1, h2, h3, h4⟩ := h; exact ⟨F', H', nx', E', fp', h1, h2, ht.trans h3, hs.trans h4⟩
  | _ => exact h.elim

def AnnsOK (K : FCfg) : Prop := ∀ q ∈ K.anns, AnnOK q.2

theorem unroll_rounds {K : FCfg} {inl : Inl} {c : Code} {Z : Type} {z : Z} {kr : KS Z} {k : Ex → KS Z} {n : Nat} (hb : CodeOK C K inl c) (hd : dstsOk n c = true) :
    ∀ (N : Nat) (F : Fr) (H : Heap) (nx : Nat) (E : Env) (fp : Fp) (w : World) (a : Act), unrollF (evCode C K inl c) kr k N F H nx = some z → St C.RT E H fp w F a nx n →
      Code.rounds C.P c (Post C z kr k E H fp w nx a n (asg c)) N a w
  | 0, F, H, nx, E, fp, w, a, hk, _ => by simp [unrollF] at hk
  | N + 1, F, H, nx, E, fp, w, a, hk, st => by
    simp only [unrollF] at hk
    rw [rounds_succ]
    refine wp_mono (hb Z z _ _ _ _ _ E fp w a n hk st hd) fun e a' w' hq => ?_
    cases e with
    | normal =>
      obtain ⟨F', H', nx', E', fp', h1, h2, h3, h4⟩ := hq
      have := unroll_rounds hb hd N F' H' nx' E' fp' w' a' h1 h2
      refine rounds_mono N (fun e a'' w'' h => Post.after h3 h4 h) this
    | exit id => obtain ⟨F', H', nx', E', fp', h1, h2, h3, h4⟩ := hq; exact ⟨F', H', nx', E', fp', h1, h2, h3, h4⟩
    | ret => obtain ⟨F', H', nx', E', fp', h1, h2, h3, h4⟩ := hq; exact ⟨F', H', nx', E', fp', h1, h2, h3, h4⟩
    | _ => exact hq.elim
where
  rounds_mono {P : Program} {c : Code} {Q Q' : Exit → Act → World → Prop} : ∀ (N : Nat) {a : Act} {w : World}, (∀ e a w, Q e a w → Q' e a w) → Code.rounds P c Q N a w → Code.rounds P c Q' N a w
    | 0, _, _, _, h => h.elim
    | N + 1, a, w, hq, h => by
      rw [rounds_succ] at h ⊢
      refine wp_mono h fun e a' w' hq' => ?_
      cases e with
      | normal => exact rounds_mono N hq hq'
      | _ => exact hq _ _ _ hq'

/-- A LOOP THAT SOMETHING IS TOLD OF. -/
theorem loop_sound (hC : CfgOK C) {K : FCfg} {inl : Inl} {A : Ann} (hA : AnnOK A) {c : Code} (hb : CodeOK (C.inLoop A) K inl c) {Z : Type} {z : Z} {kr : KS Z} {k : Ex → KS Z} {nx n : Nat}
    (hk : gate (annOk C A && Nat.ble nx A.nx) (mState A.nx H none F A.slots A.blks fun m =>
        gate (namedOnly (ids A.blks) 0 m.σ && (viewsIn A.mov nx 0 m.σ && (viewsApart m.σ && (lentApart m.σ m.lent && A.lentOk m.lent)))) (match A.ret with
          | false => obind (loopF A m.fixed (evCode (C.inLoop A) K inl c) C.N m.leaves) fun t =>
              k (.exit A.exId) (frBehind A c (A.enc t) m.fixed F) (heapBehind A (wholeIds m.σ) (A.enc t) m.fixed H) A.nx
          | true => osum (loopR A m.fixed (evCode (C.inLoop A) K inl c) kr C.N m.leaves) fun t =>
              k (.exit A.exId) (frBehind A c (A.enc t) m.fixed F) (heapBehind A (wholeIds m.σ) (A.enc t) m.fixed H) A.nx)) = some z)
    (st : St C.RT E H fp w F a nx n) (hd : dstsOk n c = true) : (Code.loop c).wp C.P (Post C z kr k E H fp w nx a n (asg c)) a w := by
  rw [gate_some] at hk
  obtain ⟨hg, hk⟩ := hk
  simp only [Bool.and_eq_true] at hg
  obtain ⟨hok, hnx⟩ := hg
  have hnx : nx ≤ A.nx := by simpa using hnx
  simp only [mState] at hk
  obtain ⟨m1, h1, e1, k1⟩ := mSlots_sound hk
  obtain ⟨m, h2, e2, k2⟩ := mBlks_sound h1
  rw [gate_some] at h2
  obtain ⟨hg, h2⟩ := h2
  simp only [Bool.and_eq_true] at hg
  obtain ⟨hn, hvi, hva, hla, hlo⟩ := hg
  have hsl := k1 m e2
  have hbl := k2 m (.refl m)
  simp only [lcOf] at hsl hbl
  have hlen : m.σ.length = A.nx := by rw [(e1.trans e2).σlen]; exact nones_length _
  have hv : ∀ t v, m.σ[t]? = some v → v = .none ∨ t ∈ A.mov ∨ v = .whole t := by
    intro t v h
    rcases viewsIn_get hvi h with h | h | ⟨h, _⟩
    · exact Or.inl h
    · rw [Nat.zero_add] at h; exact Or.inr (Or.inr h)
    · rw [Nat.zero_add] at h; exact Or.inr (Or.inl h)
  have hp : ∀ (t id lo n : Nat) g kd xs, m.σ[t]? = some (.part id lo n) → H id = some (.ints g kd xs) → lo + n ≤ xs.length := by
    intro t id lo n g kd xs h _
    rcases viewsIn_get hvi h with h | h | ⟨_, _, h | ⟨_, h⟩⟩ <;> simp at h
  have hle := baseL_le (E := E) (H := H) (fp := fp) (w := w) (lent := m.lent) hlen hv
  have hbase := Sim.base hC.rt st.sim hbl hva hla hp
  have hsim := hbase.le hle (fun _ _ h => h)
  have hrf := (base_rf hC.rt st.sim st.rf hsl).mono hle
  have hok' := hok
  unfold annOk at hok'
  simp only [Bool.and_eq_true] at hok'
  obtain ⟨hoL, hoM, hoD, _⟩ := hok'
  have hst0 : St C.RT (baseL E H fp w m.σ m.lent A.mov A.nx) (fHeap m.leaves m.fixed noHeap A.blks) (baseFp E fp m.σ) w (fSlots m.leaves m.fixed noFr A.slots) a A.nx n :=
    ⟨hsim, fun id hid => by simp only [baseL]; rw [if_neg (by omega)], hrf, st.size, st.df⟩
  have hhead : Head C A m.fixed (baseL E H fp w m.σ m.lent A.mov A.nx) (fHeap m.leaves m.fixed noHeap A.blks) (baseFp E fp m.σ) w a n (asg c) m.leaves
      (baseL E H fp w m.σ m.lent A.mov A.nx) (baseFp E fp m.σ) w a :=
    ⟨hst0, ⟨fun _ _ _ _ h => h, fun _ _ h => h, .refl _ _, fun _ h _ => h, .refl _ _ _ _⟩, .refl _ _⟩
  have hlive : ∀ t ∈ ids A.blks, ∃ J, (baseL E H fp w m.σ m.lent A.mov A.nx).info t = some J := by
    intro t ht
    obtain ⟨p, hp'⟩ := ids_mem.1 ht
    have hb' := fHeap_live (L := m.leaves) (Lc := m.fixed) hoD hp'
    obtain ⟨b, hb0⟩ := (fBlk_live (L := m.leaves) (Lc := m.fixed)).1 (allLive_get hoL hp')
    rw [hb0] at hb'
    obtain ⟨I, hI, _⟩ := hsim.blk t b hb'
    exact ⟨I, hI⟩
  have hE0 : ∀ t, t < A.nx → t ∉ A.mov → (baseL E H fp w m.σ m.lent A.mov A.nx).info t = E.info t := fun t h1 h2 => by simp only [baseL, if_pos h1, if_neg h2]
  have hown0 : ∀ x, OwnAll (fHeap m.leaves m.fixed noHeap A.blks) (baseFp E fp m.σ) x → ∃ id b, (id ∈ ids A.blks ∨ id ∈ wholeIds m.σ) ∧ H id = some b ∧ fp id x := by
    rintro x ⟨t, b, hb', hx⟩
    obtain ⟨v, id, b', g1, g2, g3, g4⟩ := base_own st.sim hbl hp hb' hx
    refine ⟨id, b', ?_, g3, g4⟩
    rcases viewsIn_get hvi g1 with rfl | rfl | ⟨_, _, rfl | ⟨id', rfl⟩⟩
    · simp [viewId] at g2
    · simp only [viewId, Option.some.injEq] at g2
      rw [← g2]; exact Or.inr (wholeIds_mem g1)
    · simp [viewId] at g2
    · simp only [viewId, Option.some.injEq] at g2
      rw [← g2]; exact Or.inr (wholeIds_mem g1)
  -- where it is left
  have hexit : ∀ {L' Ex fpx w' a' t}, t = A.dec L' → k (.exit A.exId) (frBehind A c (A.enc t) m.fixed F) (heapBehind A (wholeIds m.σ) (A.enc t) m.fixed H) A.nx = some z →
      St C.RT Ex (fHeap L' m.fixed noHeap A.xblks) fpx w' (fSlots L' m.fixed noFr A.xslots) a' A.nx n →
      (∀ t I, Ex.info t = some I → t < A.nx ∧ t ∈ ids A.blks ∧ (t ∈ A.mov ∨ (baseL E H fp w m.σ m.lent A.mov A.nx).info t = some I)) →
      Frm w (OwnAll (fHeap m.leaves m.fixed noHeap A.blks) (baseFp E fp m.σ)) w' →
      (∀ x, OwnAll (fHeap L' m.fixed noHeap A.xblks) fpx x → x.1 < w.heap.size → OwnAll (fHeap m.leaves m.fixed noHeap A.blks) (baseFp E fp m.σ) x) → Same (asg c) a a' →
      (A.plain = false → (∀ ad v, (baseL E H fp w m.σ m.lent A.mov A.nx).M ad = some v → Ex.M ad = some v) ∧ MExt (baseL E H fp w m.σ m.lent A.mov A.nx) (fHeap m.leaves m.fixed noHeap A.blks) (baseFp E fp m.σ) w Ex) →
      Post C z kr k E H fp w nx a n (asg c) (.exit A.exId) a' w' := by
    rintro L' Ex fpx w' a' t rfl hkk sx hx hfrm hown hsame hpl
    obtain ⟨E', fp', g1, g2⟩ := behind hC.rt hok hnx st hE0 hown0 sx hx hfrm hown hsame fun hp => by
      obtain ⟨p1, p2⟩ := hpl hp
      have hl : noLent m.lent = true := by simpa [Ann.lentOk, hp] using hlo
      refine ⟨fun ad v h => p1 ad v (baseE_M (H := H) (fp := fp) (w := w) (σ := m.σ) (lent := m.lent) h), fun ad v h => ?_⟩
      rcases p2 ad v h with h | h | h
      · exact Or.inl (baseE_none (σ := m.σ) hl h)
      · exact Or.inr (Or.inl h)
      · exact Or.inr (Or.inr h)
    obtain ⟨q1, q2⟩ := hA L' m.fixed
    unfold frBehind heapBehind at hkk
    rw [fSlots_congr q1, fHeap_congr q2] at hkk
    exact ⟨_, _, _, E', fp', hkk, g1, g2, hsame⟩
  split at h2
  · rw [obind_some] at h2
    obtain ⟨t, ht, hkk⟩ := h2
    rw [loopF_eq] at ht
    refine wp_loop_rounds C.N (unroll_rounds.rounds_mono C.N (fun e a' w' hq => ?_) (loop_rounds hC.rt hb hd hlive C.N m.leaves _ _ w a ht hhead))
    cases e with
    | exit id =>
      obtain ⟨rfl, L', Ex, fpx, q1, q2, q3, q4, q5, q6, q7⟩ := hq
      exact hexit q1.symm hkk q2 q3 q4 q5 q6 q7
    | ret => obtain ⟨F', H', nx', E', fp', q1, _⟩ := hq; simp at q1
    | _ => exact hq.elim
  · unfold osum at h2
    split at h2
    · rename_i t ht
      rw [loopR_eq] at ht
      refine wp_loop_rounds C.N (unroll_rounds.rounds_mono C.N (fun e a' w' hq => ?_) (loop_rounds hC.rt hb hd hlive C.N m.leaves _ _ w a ht hhead))
      cases e with
      | exit id =>
        obtain ⟨rfl, L', Ex, fpx, q1, q2, q3, q4, q5, q6, q7⟩ := hq
        simp only [Sum.inl.injEq] at q1
        exact hexit q1.symm h2 q2 q3 q4 q5 q6 q7
      | ret =>
        obtain ⟨F', H', nx', E', fp', q1, _⟩ := hq
        cases hkr : kr F' H' nx' <;> simp [omap, hkr] at q1
      | _ => exact hq.elim
    · rename_i z' ht
      simp only [Option.some.injEq] at h2
      subst h2
      rw [loopR_eq] at ht
      refine wp_loop_rounds C.N (unroll_rounds.rounds_mono C.N (fun e a' w' hq => ?_) (loop_rounds hC.rt hb hd hlive C.N m.leaves _ _ w a ht hhead))
      cases e with
      | exit id =>
        obtain ⟨rfl, L', Ex, fpx, q1, _⟩ := hq
        simp at q1
      | ret =>
        obtain ⟨F', H', nx', E', fp', q1, q2, q3, q4, q5⟩ := hq
        have hkr : kr F' H' nx' = some z' := by
          cases hkr : kr F' H' nx' with
          | none => simp [omap, hkr] at q1
          | some z'' => simp [omap, hkr] at q1; rw [q1]
        refine ⟨F', H', nx', E', fp', hkr, q2, ⟨fun id I h1 h2 hI => ?_, fun ad v h => q3.M ad v (baseE_M (H := H) (fp := fp) (w := w) (σ := m.σ) (lent := m.lent) h), ?_, fun x hx hlt => ?_, Nat.le_trans hnx q4, q2.fresh, fun ad v h => ?_⟩, q5⟩
        · have hid : id < A.nx := by
            rcases Nat.lt_or_ge id nx with h | h
            · omega
            · rw [st.fresh id h] at hI; simp at hI
          have hmv : id ∉ A.mov := by
            intro hm
            rcases movOk_get hoM hm with h | h
            · omega
            · exact h2 h
          exact q3.keep id I hid hmv (by rw [hE0 id hid hmv]; exact hI)
        · exact q3.frm.mono fun x ho => let ⟨id, b, _, g2, g3⟩ := hown0 x ho; ⟨id, b, g2, g3⟩
        · obtain ⟨id, b, _, g2, g3⟩ := hown0 x (q3.own x hx hlt)
          exact ⟨id, b, g2, g3⟩
        · rcases q3.ext ad v h with h | h | h
          · exact baseE_ext (σ := m.σ) (lent := m.lent) ad v h
          · exact Or.inr (Or.inl h)
          · exact Or.inr (Or.inr (let ⟨id, b, _, g2, g3⟩ := hown0 _ h; ⟨id, b, g2, g3⟩))
      | _ => exact hq.elim
    · simp at h2

/-- CODE. -/
theorem evCode_sound {K : FCfg} (hK : AnnsOK K) {inl : Inl} : ∀ (c : Code) (C : Cfg), CfgOK C → InlOK C inl → CodeOK C K inl c := by
  intro c
  induction c with
  | skip =>
    intro C hC hinl Z z kr k F H nx E fp w a n hk st hd
    exact wp_skip ⟨F, H, nx, E, fp, hk, st, .refl st.fresh, .refl _ _⟩
  | region id ops draw =>
    intro C hC hinl Z z kr k F H nx E fp w a n hk st hd
    simp only [evCode] at hk
    cases draw with
    | false =>
      exact wp_region_list (evOps_sound hC hinl hk st hd fun F' H' nx' E' fp' a' w' g1 g2 g3 g4 => ⟨F', H', nx', E', fp', g1, g2, g3, g4⟩)
    | true =>
      exact evDraw_sound hC hk st hd fun F' H' nx' E' fp' a' w' g1 g2 g3 g4 => ⟨F', H', nx', E', fp', g1, g2, g3, g4⟩
  | seq x z ihx ihz =>
    intro C hC hinl Z zz kr k F H nx E fp w a n hk st hd
    simp only [evCode] at hk
    simp only [dstsOk, Bool.and_eq_true] at hd
    refine wp_seq (wp_mono (ihx C hC hinl Z zz kr _ F H nx E fp w a n hk st hd.1) fun e a' w' hq => ?_)
    have hm1 : ∀ j, asg x j = true → asg (.seq x z) j = true := fun j h => by simp [asg, h]
    have hm2 : ∀ j, asg z j = true → asg (.seq x z) j = true := fun j h => by simp [asg, h]
    cases e with
    | normal =>
      obtain ⟨F', H', nx', E', fp', g1, g2, g3, g4⟩ := hq
      exact wp_mono (ihz C hC hinl Z zz kr k F' H' nx' E' fp' w' a' n g1 g2 hd.2) fun e a'' w'' h => Post.after g3 (g4.mono hm1) (h.mono_asg hm2)
    | exit id => obtain ⟨F', H', nx', E', fp', g1, g2, g3, g4⟩ := hq; exact ⟨F', H', nx', E', fp', g1, g2, g3, g4.mono hm1⟩
    | ret => obtain ⟨F', H', nx', E', fp', g1, g2, g3, g4⟩ := hq; exact ⟨F', H', nx', E', fp', g1, g2, g3, g4.mono hm1⟩
    | goto l => exact hq.elim
    | panic ch => exact hq.elim
    | outgrown => exact hq.elim
  | cond x t e iht ihe =>
    intro C hC hinl Z zz kr k F H nx E fp w a n hk st hd
    simp only [evCode] at hk
    simp only [dstsOk, Bool.and_eq_true] at hd
    split at hk
    · rename_i b hb
      have hv : RV C.RT E (evOpd F x) (a.eval x) := opd_sound st.rf x
      rw [hb] at hv
      have hx : a.eval x = .bool b := R.bool_inv hv
      refine wp_cond_split hx (fun hbt => ?_) (fun hbf => ?_)
      · subst hbt
        exact wp_mono (iht C hC hinl Z zz kr k F H nx E fp w a n hk st hd.1) fun e a' w' h => h.mono_asg fun j h => by simp [asg, h]
      · subst hbf
        exact wp_mono (ihe C hC hinl Z zz kr k F H nx E fp w a n hk st hd.2) fun e a' w' h => h.mono_asg fun j h => by simp [asg, h]
    · simp at hk
  | block id c ih =>
    intro C hC hinl Z zz kr k F H nx E fp w a n hk st hd
    simp only [evCode] at hk
    refine wp_block (wp_mono (ih C hC hinl Z zz kr _ F H nx E fp w a n hk st hd) fun e a' w' hq => ?_)
    cases e with
    | normal => exact hq
    | exit id' =>
      obtain ⟨F', H', nx', E', fp', g1, g2, g3, g4⟩ := hq
      simp only at g1
      simp only [Exit.inBlock]
      split at g1
      · rename_i hb
        rw [if_pos (Nat.eq_of_beq_eq_true hb)]
        exact ⟨F', H', nx', E', fp', g1, g2, g3, g4⟩
      · rename_i hb
        rw [if_neg (fun he => by subst he; simp at hb)]
        exact ⟨F', H', nx', E', fp', g1, g2, g3, g4⟩
    | ret => exact hq
    | goto l => exact hq.elim
    | panic ch => exact hq.elim
    | outgrown => exact hq.elim
  | loop c ih =>
    intro C hC hinl Z zz kr k F H nx E fp w a n hk st hd
    simp only [evCode] at hk
    split at hk
    · rename_i A hA
      exact loop_sound hC (hK _ (find_mem hA)) (ih (C.inLoop A) (hC.inLoop A) hinl) hk st hd
    · split at hk
      · rename_i N hN
        exact wp_loop_rounds N (unroll_rounds (ih C hC hinl) hd N F H nx E fp w a hk st)
      · simp [noAnn] at hk
  | exit id =>
    intro C hC hinl Z z kr k F H nx E fp w a n hk st hd
    exact wp_exit ⟨F, H, nx, E, fp, hk, st, .refl st.fresh, .refl _ _⟩
  | ret =>
    intro C hC hinl Z z kr k F H nx E fp w a n hk st hd
    exact wp_ret ⟨F, H, nx, E, fp, hk, st, .refl st.fresh, .refl _ _⟩
  | _ =>
    intro C hC hinl Z z kr k F H nx E fp w a n hk st hd
    simp [evCode] at hk

end Go.Eng
