/-
  The engine, part seven: a call by its callee's shape.
  Conditions: none; nothing is claimed of the program here.
-/
import Derived.Test.YtghbobmkkbdhpaaEngBase
set_option linter.unusedSimpArgs false
set_option linter.unusedVariables false
namespace Go.Eng
variable {RT : RoTab} {E : Env} {F : Fr} {a : Act} {H : Heap} {fp : Fp} {w : World} {P : Program} {Y : Type} {y : Y}

theorem mem_iff : ∀ {l : List Nat} {x : Nat}, mem l x = true ↔ x ∈ l
  | [], x => by simp [mem]
  | z :: r, x => by
    simp only [mem]
    split
    · rename_i h
      have := Nat.eq_of_beq_eq_true h
      simp [this]
    · rename_i h
      have hne : x ≠ z := fun he => by subst he; simp at h
      rw [mem_iff (l := r)]
      simp [hne]

/-! ### What a specification must be -/
def plainP : Pat → Bool
  | .ror _ => false
  | _ => true
def noFixP : Pat → Bool
  | .fbool _ | .fint _ _ | .froi _ _ | .fsub _ _ _ => false
  | _ => true
def allP (f : Pat → Bool) : List Pat → Bool
  | [] => true
  | p :: r => f p && allP f r
def allT (f : Pat → Bool) : List (Bool × List Pat) → Bool
  | [] => true
  | (_, ps) :: r => allP f ps && allT f r
def allV (f : Pat → Bool) : VPat → Bool
  | .at p => f p
  | .agg ps => allP f ps
  | .tup ps => allT f ps
def allVs (f : Pat → Bool) : List VPat → Bool
  | [] => true
  | p :: r => allV f p && allVs f r
def allB (f : Pat → Bool) : List (Nat × BPat) → Bool
  | [] => true
  | (_, .cells _ ps) :: r => allP f ps && allB f r
  | _ :: r => allB f r
def noFixB : List (Nat × BPat) → Bool
  | [] => true
  | (_, .fints _ _ _) :: _ => false
  | (_, .frecs _ _ _) :: _ => false
  | (_, .fhole _ _ _ _) :: _ => false
  | _ :: r => noFixB r
def below (n : Nat) : List (Nat × BPat) → Bool
  | [] => true
  | (t, _) :: r => Nat.blt t n && below n r
def upTo (l : List Nat) : Nat → Bool
  | 0 => true
  | n + 1 => mem l n && upTo l n

/-- A specification is well made. -/
def specOk (s : Spec) : Bool :=
  allVs plainP s.args && (allB plainP s.pre && (allB plainP s.post && (allV plainP s.ret && (allVs noFixP s.args && (allB noFixP s.pre && (noFixB s.pre &&
    (distinct (ids s.post) && (below (s.n + len s.post) s.post && (upTo (ids s.post) s.n && (upTo (idsLive s.pre) s.n && distinct (ids s.pre)))))))))))

theorem allP_get {f : Pat → Bool} : ∀ {ps : List Pat} {p : Pat}, allP f ps = true → p ∈ ps → f p = true
  | [], p, _, h => by simp at h
  | q :: r, p, h, hm => by
    simp only [allP, Bool.and_eq_true] at h
    rcases List.mem_cons.1 hm with rfl | hm
    · exact h.1
    · exact allP_get h.2 hm

theorem fAtom_noFix {L Lc Lc' : Leaves} {p : Pat} (h : noFixP p = true) : fAtom L Lc p = fAtom L Lc' p := by
  cases p <;> first | rfl | simp [noFixP] at h

theorem fAtoms_noFix {L Lc Lc' : Leaves} : ∀ {ps : List Pat}, allP noFixP ps = true → fAtoms L Lc ps = fAtoms L Lc' ps
  | [], _ => rfl
  | p :: r, h => by
    simp only [allP, Bool.and_eq_true] at h
    rw [fAtoms, fAtoms, fAtom_noFix h.1, fAtoms_noFix h.2]

theorem fTup_noFix {L Lc Lc' : Leaves} : ∀ {ps : List (Bool × List Pat)}, allT noFixP ps = true → fTup L Lc ps = fTup L Lc' ps
  | [], _ => rfl
  | (g, p) :: r, h => by
    simp only [allT, Bool.and_eq_true] at h
    rw [fTup, fTup, fAtoms_noFix h.1, fTup_noFix h.2]

theorem fAV_noFix {L Lc Lc' : Leaves} {p : VPat} (h : allV noFixP p = true) : fAV L Lc p = fAV L Lc' p := by
  cases p with
  | «at» p => rw [fAV, fAV, fAtom_noFix h]
  | agg ps => rw [fAV, fAV, fAtoms_noFix h]
  | tup ps => rw [fAV, fAV, fTup_noFix h]

theorem fAVs_noFix {L Lc Lc' : Leaves} : ∀ {ps : List VPat}, allVs noFixP ps = true → fAVs L Lc ps = fAVs L Lc' ps
  | [], _ => rfl
  | p :: r, h => by
    simp only [allVs, Bool.and_eq_true] at h
    rw [fAVs, fAVs, fAV_noFix h.1, fAVs_noFix h.2]

theorem fHeap_noFix {L Lc Lc' : Leaves} {H0 : Heap} : ∀ {bs : List (Nat × BPat)}, allB noFixP bs = true → noFixB bs = true → fHeap L Lc H0 bs = fHeap L Lc' H0 bs
  | [], _, _ => rfl
  | (t, p) :: r, h, h' => by
    cases p with
    | cells wd ps =>
      simp only [allB, Bool.and_eq_true] at h
      rw [fHeap, fHeap, fHeap_noFix h.2 h', fBlk, fBlk, fAtoms_noFix h.1]
    | ints g k i => have ih := fHeap_noFix (L := L) (Lc := Lc) (Lc' := Lc') (H0 := H0) (bs := r) h h'; simp only [fHeap, ih]; rfl
    | recs g T i => have ih := fHeap_noFix (L := L) (Lc := Lc) (Lc' := Lc') (H0 := H0) (bs := r) h h'; simp only [fHeap, ih]; rfl
    | dead => have ih := fHeap_noFix (L := L) (Lc := Lc) (Lc' := Lc') (H0 := H0) (bs := r) h h'; simp only [fHeap, ih]; rfl
    | fints g k i => simp [noFixB] at h'
    | frecs g T i => simp [noFixB] at h'
    | fhole k i hi t => simp [noFixB] at h'

/-! ### Shapes without elements that are only read mean the same over each table -/
theorem fAtom_RT {RT' : RoTab} {L Lc : Leaves} {p : Pat} {u : Value} (hp : plainP p = true) (h : R RT E (fAtom L Lc p) u) : R RT' E (fAtom L Lc p) u := by
  cases p with
  | unk => exact .unk u
  | bool i => rw [R.bool_inv h]; exact .bool _
  | int k i => rw [R.int_inv h]; exact .int _ _
  | fbool i => rw [R.bool_inv h]; exact .bool _
  | fint k i => rw [R.int_inv h]; exact .int _ _
  | roi k i => simp only [fAtom] at h ⊢; cases h with | roi hc hx => exact .roi hc hx
  | froi k i => simp only [fAtom] at h ⊢; cases h with | roi hc hx => exact .roi hc hx
  | nilp => simp only [fAtom] at h ⊢; cases h; exact .nilp
  | nils => simp only [fAtom] at h ⊢; cases h; exact .nils
  | ptr t off => simp only [fAtom] at h ⊢; cases h with | ptr h => exact .ptr h
  | full t nn => simp only [fAtom] at h ⊢; cases h with | full h hb hn hc hg => exact .full h hb hn hc hg
  | ror tag => simp [plainP] at hp
  | fn f => simp only [fAtom] at h ⊢; cases h with | fn hn hr => exact .fn hn fun j x hj => by simp at hj
  | ifp ty t off => simp only [fAtom] at h ⊢; cases h with | ifa hr => cases hr with | ptr h => exact .ifa (.ptr h)
  | fsub t h1 h2 => simp only [fAtom] at h ⊢; cases h with | sub h hw hl hc hb => exact .sub h hw hl hc hb
  | clo f ts =>
    simp only [fAtom] at h ⊢
    cases h with
    | fn hn hr =>
      refine R.fn hn fun j x hj => ?_
      obtain ⟨q, hts, rfl⟩ := cloA_get hj
      obtain ⟨I, hI, hu⟩ := R.ptr_inv (hr j _ hj)
      rw [hu]
      exact R.ptr hI

theorem fAtoms_RT {RT' : RoTab} {L Lc : Leaves} {ps : List Pat} {vs : Array Value} (hp : allP plainP ps = true) (h : RCs RT E (fAtoms L Lc ps) vs) : RCs RT' E (fAtoms L Lc ps) vs := by
  refine ⟨h.1, fun j x hj => ?_⟩
  have := h.2 j x hj
  rw [fAtoms_eq, List.getElem?_map] at hj
  cases hq : ps[j]? with
  | none => simp [hq] at hj
  | some p =>
    simp [hq] at hj
    subst hj
    exact fAtom_RT (allP_get hp (List.mem_of_getElem? hq)) this

theorem allT_get {f : Pat → Bool} : ∀ {ps : List (Bool × List Pat)} {p : Bool × List Pat}, allT f ps = true → p ∈ ps → allP f p.2 = true
  | [], p, _, h => by simp at h
  | (g, q) :: r, p, h, hm => by
    simp only [allT, Bool.and_eq_true] at h
    rcases List.mem_cons.1 hm with rfl | hm
    · exact h.1
    · exact allT_get h.2 hm

theorem fTup_eq (L Lc : Leaves) : ∀ ps : List (Bool × List Pat), fTup L Lc ps = ps.map fun p => (p.1, fAtoms L Lc p.2)
  | [] => rfl
  | (g, q) :: r => by simp [fTup, fTup_eq L Lc r]

theorem fAV_RT {RT' : RoTab} {L Lc : Leaves} {p : VPat} {u : Value} (hp : allV plainP p = true) (h : RV RT E (fAV L Lc p) u) : RV RT' E (fAV L Lc p) u := by
  cases p with
  | «at» p => exact fAtom_RT (p := p) hp h
  | agg ps => obtain ⟨vs, rfl, hc⟩ := h; exact ⟨vs, rfl, fAtoms_RT hp hc⟩
  | tup ps =>
    obtain ⟨vs, rfl, hn, hc⟩ := h
    refine ⟨vs, rfl, hn, fun j q hj => ?_⟩
    have := hc j q hj
    rw [fTup_eq, List.getElem?_map] at hj
    cases hq : ps[j]? with
    | none => simp [hq] at hj
    | some p =>
      simp [hq] at hj
      subst hj
      obtain ⟨g, ps'⟩ := p
      have hpl := allT_get hp (List.mem_of_getElem? hq)
      simp only at this hpl ⊢
      cases g with
      | true => obtain ⟨vs', he, hc'⟩ := this; exact ⟨vs', he, fAtoms_RT hpl hc'⟩
      | false =>
        match ps', this, hpl with
        | [p1], this, hpl =>
          simp only [allP, Bool.and_eq_true] at hpl
          exact fAtom_RT (p := p1) hpl.1 this

theorem fBlk_RT {RT' : RoTab} {L Lc : Leaves} {p : BPat} {b : Blk} {I : Info} {f : Nat × Nat → Prop} (hp : ∀ wd ps, p = .cells wd ps → allP plainP ps = true) (hb : fBlk L Lc p = some b) (h : BlkOK RT E b I f w) :
    BlkOK RT' E b I f w where
  own := h.own
  cap := h.cap
  live := h.live
  kind := by
    have hk := h.kind
    cases p with
    | cells wd ps =>
      simp only [fBlk, Option.some.injEq] at hb
      subst hb
      refine ⟨hk.1, hk.2.1, hk.2.2.1, fun j x hj => ?_⟩
      obtain ⟨v, hv, hr⟩ := hk.2.2.2 j x hj
      refine ⟨v, hv, ?_⟩
      rw [fAtoms_eq, List.getElem?_map] at hj
      cases hq : ps[j]? with
      | none => simp [hq] at hj
      | some p =>
        simp [hq] at hj
        subst hj
        exact fAtom_RT (allP_get (hp _ _ rfl) (List.mem_of_getElem? hq)) hr
    | ints g k i => simp only [fBlk, Option.some.injEq] at hb; subst hb; exact hk
    | fints g k i => simp only [fBlk, Option.some.injEq] at hb; subst hb; exact hk
    | recs g T i =>
      simp only [fBlk, Option.some.injEq] at hb; subst hb
      exact ⟨hk.1, hk.2.1, hk.2.2.1, fun i j x hi hj => let ⟨v, hv, hr⟩ := hk.2.2.2 i j x hi hj; ⟨v, hv, recA_R hj (fun _ _ h => h) hr⟩⟩
    | frecs g T i =>
      simp only [fBlk, Option.some.injEq] at hb; subst hb
      exact ⟨hk.1, hk.2.1, hk.2.2.1, fun i j x hi hj => let ⟨v, hv, hr⟩ := hk.2.2.2 i j x hi hj; ⟨v, hv, recA_R hj (fun _ _ h => h) hr⟩⟩
    | fhole k i hi t =>
      simp only [fBlk, Option.some.injEq] at hb; subst hb
      refine ⟨hk.1, hk.2.1, fun i hi => ?_⟩
      obtain ⟨v, hv, hr⟩ := hk.2.2 i hi
      refine ⟨v, hv, ?_⟩
      split at hr
      · rename_i he; rw [if_pos he]; cases hr with | full h hb hn hc hg => exact .full h hb hn hc hg
      · rename_i he; rw [if_neg he]; exact roi_R (fun _ _ h => h) hr
    | dead => simp [fBlk] at hb

theorem allB_get {f : Pat → Bool} : ∀ {bs : List (Nat × BPat)} {q : Nat × BPat} {wd : Nat} {ps : List Pat}, allB f bs = true → q ∈ bs → q.2 = .cells wd ps → allP f ps = true
  | [], q, _, _, _, h, _ => by simp at h
  | (t, p) :: r, q, wd, ps, h, hm, he => by
    rcases List.mem_cons.1 hm with rfl | hm
    · simp only at he
      subst he
      simp only [allB, Bool.and_eq_true] at h
      exact h.1
    · refine allB_get (bs := r) ?_ hm he
      cases p <;> simp only [allB, Bool.and_eq_true] at h <;> first | exact h.2 | exact h

theorem Sim.anyRT {RT' : RoTab} {L Lc : Leaves} {bs : List (Nat × BPat)} (hp : allB plainP bs = true) (hs : Sim RT E (fHeap L Lc noHeap bs) fp w) : Sim RT' E (fHeap L Lc noHeap bs) fp w where
  blk := fun t b hb => by
    obtain ⟨I, hI, ok⟩ := hs.blk t b hb
    rcases fHeap_get L Lc noHeap hb with ⟨q, hq, _, h2⟩ | ⟨h1, _⟩
    · exact ⟨I, hI, fBlk_RT (fun wd ps he => allB_get hp hq he) h2 ok⟩
    · simp [noHeap] at h1
  disj := hs.disj
  ro := hs.ro

def noRT : RoTab := fun _ => none

/-- A FUNCTION'S CONTRACT. -/
structure CallOK (P : Program) (f : FuncId) (s : Spec) : Prop where
  ok : specOk s = true
  cps : ∀ (N : Nat) (L : Leaves) (Y : Type) (k : Leaves → Option Y), s.run N L k = obind (s.run N L some) k
  calls : ∀ (N : Nat) (L L' : Leaves) (E : Env) (fp : Fp) (w : World) (args : Array Value), s.run N L some = some L' → Sim noRT E (fHeap L L noHeap s.pre) fp w →
    All2 (RV noRT E) (fAVs L L s.args) args.toList → Fresh E s.n →
    Calls P f args w fun e w' => ∃ E' fp' u, e = .returned u ∧ RV noRT E' (fAV L' L s.ret) u ∧ Sim noRT E' (fHeap L' L noHeap s.post) fp' w' ∧
      Frm w (OwnAll (fHeap L L noHeap s.pre) fp) w' ∧ (∀ x, OwnAll (fHeap L' L noHeap s.post) fp' x → x.1 < w.heap.size → OwnAll (fHeap L L noHeap s.pre) fp x) ∧
      (∀ t, t < s.n → t ∈ idsLive s.post → E'.info t = E.info t) ∧ (∀ a v, E.M a = some v → E'.M a = some v) ∧ MExt E (fHeap L L noHeap s.pre) fp w E'

/-- The caller's id of a callee's. -/
def tgt (σ : List View) (n nx t : Nat) : Option Nat :=
  match Nat.blt t n with
  | true => match nth σ t with
    | some (.whole id) => some id
    | some (.part id _ _) => some id
    | _ => none
  | false => some (nx + (t - n))

/-- A part's block behind the call. -/
def partB (lo n : Nat) : Option Blk → Option Blk → Option Blk
  | some (.ints g kd xs), some (.ints _ kd' ys) => match eqK kd kd' with
    | true => some (.ints g kd (xs.take lo ++ (ys ++ xs.drop (lo + n))))
    | false => none
  | _, _ => none

/-- What stands behind a call at the place of t. -/
def postAt (ro : Bool) (ρ : Nat → Option Nat) (σ : List View) (n t : Nat) (b o : Option Blk) : Option Blk :=
  match Nat.blt t n with
  | true => match nth σ t with
    | some (.part _ lo m) => partB lo m o b
    | _ => renBlk ro ρ b
  | false => renBlk ro ρ b

theorem postBlk_eq {ro : Bool} {ρ : Nat → Option Nat} {σ : List View} {n nx t : Nat} {b : Option Blk} : postBlk ro ρ σ n nx t b H = match tgt σ n nx t with
    | some id => putH H id (postAt ro ρ σ n t b (H id))
    | none => H := by
  unfold postBlk tgt postAt
  cases h : Nat.blt t n with
  | false => rfl
  | true =>
    simp only
    cases hv : nth σ t with
    | none => rfl
    | some v =>
      cases v with
      | none => rfl
      | empty => rfl
      | whole id => rfl
      | part id lo m =>
        simp only
        cases ho : H id with
        | none => rfl
        | some o =>
          cases o with
          | ints g kd xs =>
            cases b with
            | none => rfl
            | some b => cases b <;> rfl
          | _ => rfl

theorem postBlk_other {ro : Bool} {ρ : Nat → Option Nat} {σ : List View} {n nx t id : Nat} {b : Option Blk} (h : tgt σ n nx t ≠ some id) : postBlk ro ρ σ n nx t b H id = H id := by
  rw [postBlk_eq]
  split
  · rename_i i hi
    exact putH_other fun he => h (by rw [he, hi])
  · rfl

theorem postBlk_same {ro : Bool} {ρ : Nat → Option Nat} {σ : List View} {n nx t id : Nat} {b : Option Blk} (h : tgt σ n nx t = some id) : postBlk ro ρ σ n nx t b H id = postAt ro ρ σ n t b (H id) := by
  rw [postBlk_eq, h]
  simp only [putH_same]

theorem distinct_cons {t : Nat} {l : List Nat} (h : distinct (t :: l) = true) : t ∉ l ∧ distinct l = true := by
  simp only [distinct, Bool.and_eq_true, Bool.not_eq_true'] at h
  refine ⟨fun hm => ?_, h.2⟩
  rw [mem_iff.2 hm] at h
  simp at h

theorem ids_mem : ∀ {l : List (Nat × BPat)} {t : Nat}, t ∈ ids l ↔ ∃ p, (t, p) ∈ l
  | [], t => by simp [ids]
  | (t', p') :: r, t => by
    simp only [ids, List.mem_cons, ids_mem (l := r)]
    constructor
    · rintro (rfl | ⟨p, hp⟩)
      · exact ⟨p', Or.inl rfl⟩
      · exact ⟨p, Or.inr hp⟩
    · rintro ⟨p, hp | hp⟩
      · simp only [Prod.mk.injEq] at hp; exact Or.inl hp.1
      · exact Or.inr ⟨p, hp⟩

/-- What stands at an id behind a call. -/
theorem postBlks_get (H : Heap) {ro : Bool} {ρ : Nat → Option Nat} {σ : List View} {n nx : Nat} {L Lc : Leaves} (hinj : ∀ t t' id, tgt σ n nx t = some id → tgt σ n nx t' = some id → t = t') :
    ∀ {ps : List (Nat × BPat)} {id : Nat}, distinct (ids ps) = true →
      (∃ t p, (t, p) ∈ ps ∧ tgt σ n nx t = some id ∧ postBlks ro ρ σ n nx L Lc ps H id = postAt ro ρ σ n t (fBlk L Lc p) (H id)) ∨
      ((∀ t p, (t, p) ∈ ps → tgt σ n nx t ≠ some id) ∧ postBlks ro ρ σ n nx L Lc ps H id = H id)
  | [], id, _ => Or.inr ⟨fun t p h => by simp at h, rfl⟩
  | (t, p) :: ps, id, hd => by
    obtain ⟨hn, hd'⟩ := distinct_cons (t := t) (l := ids ps) hd
    have ih := postBlks_get H (ro := ro) (ρ := ρ) (L := L) (Lc := Lc) hinj (ps := ps) (id := id) hd'
    simp only [postBlks]
    by_cases ht : tgt σ n nx t = some id
    · refine Or.inl ⟨t, p, by simp, ht, ?_⟩
      rw [postBlk_same ht]
      rcases ih with ⟨t', p', hm, ht', _⟩ | ⟨_, h⟩
      · have := hinj _ _ _ ht ht'
        subst this
        exact absurd (ids_mem.2 ⟨p', hm⟩) hn
      · rw [h]
    · rw [postBlk_other ht]
      rcases ih with ⟨t', p', hm, ht', h⟩ | ⟨h1, h2⟩
      · exact Or.inl ⟨t', p', by simp [hm], ht', h⟩
      · refine Or.inr ⟨fun t' p' hm => ?_, h2⟩
        rcases List.mem_cons.1 hm with he | hm
        · simp only [Prod.mk.injEq] at he; rw [he.1]; exact ht
        · exact h1 t' p' hm

theorem idsLive_mem : ∀ {l : List (Nat × BPat)} {t : Nat} {p : BPat}, (t, p) ∈ l → p ≠ .dead → t ∈ idsLive l
  | [], t, p, h, _ => by simp at h
  | (t', p') :: r, t, p, h, hd => by
    rcases List.mem_cons.1 h with he | hm
    · simp only [Prod.mk.injEq] at he
      obtain ⟨rfl, rfl⟩ := he
      cases p <;> simp [idsLive] at hd ⊢
    · have := idsLive_mem hm hd
      cases p' <;> simp [idsLive, this]

theorem below_mem {n : Nat} : ∀ {l : List (Nat × BPat)} {t : Nat} {p : BPat}, below n l = true → (t, p) ∈ l → t < n
  | [], t, p, _, h => by simp at h
  | (t', p') :: r, t, p, h, hm => by
    simp only [below, Bool.and_eq_true] at h
    rcases List.mem_cons.1 hm with he | hm
    · simp only [Prod.mk.injEq] at he
      rw [he.1]
      simpa [Nat.blt, Nat.succ_le_iff] using h.1
    · exact below_mem h.2 hm

theorem upTo_mem {l : List Nat} : ∀ {n t : Nat}, upTo l n = true → t < n → t ∈ l
  | 0, t, _, h => by omega
  | n + 1, t, h, hlt => by
    simp only [upTo, Bool.and_eq_true] at h
    by_cases ht : t = n
    · subst ht; exact mem_iff.1 h.1
    · exact upTo_mem h.2 (by omega)


theorem idsLive_get : ∀ {l : List (Nat × BPat)} {t : Nat}, t ∈ idsLive l → ∃ p, (t, p) ∈ l ∧ p ≠ .dead
  | [], t, h => by simp [idsLive] at h
  | (t', p') :: r, t, h => by
    cases p' with
    | dead =>
      obtain ⟨p, hp, hd⟩ := idsLive_get (l := r) (by simpa [idsLive] using h)
      exact ⟨p, by simp [hp], hd⟩
    | _ =>
      simp only [idsLive, List.mem_cons] at h
      rcases h with rfl | h
      · exact ⟨_, List.mem_cons_self .., fun h => by cases h⟩
      · obtain ⟨p, hp, hd⟩ := idsLive_get (l := r) h
        exact ⟨p, by simp [hp], hd⟩

theorem fHeap_live {L Lc : Leaves} : ∀ {l : List (Nat × BPat)} {t : Nat} {p : BPat}, distinct (ids l) = true → (t, p) ∈ l → fHeap L Lc noHeap l t = fBlk L Lc p
  | [], t, p, _, h => by simp at h
  | (t', p') :: r, t, p, hd, h => by
    obtain ⟨hn, hd'⟩ := distinct_cons (t := t') (l := ids r) hd
    simp only [fHeap]
    rcases List.mem_cons.1 h with he | hm
    · simp only [Prod.mk.injEq] at he
      obtain ⟨rfl, rfl⟩ := he
      rw [putH_same]
    · have hne : t ≠ t' := fun he => hn (ids_mem.2 ⟨p, he ▸ hm⟩)
      rw [putH_other hne]
      exact fHeap_live hd' hm

theorem fBlk_live {L Lc : Leaves} {p : BPat} : p ≠ .dead ↔ ∃ b, fBlk L Lc p = some b := by
  cases p <;> simp [fBlk]

theorem nones_length : ∀ n, (nones n).length = n
  | 0 => rfl
  | n + 1 => by simp [nones, nones_length n]

theorem partsIn_some {k : Option Y} : ∀ {vs : List View}, partsIn H vs k = some y →
    k = some y ∧ ∀ (t id lo n : Nat) g kd xs, vs[t]? = some (.part id lo n) → H id = some (.ints g kd xs) → lo + n ≤ xs.length
  | [], h => ⟨h, fun t id lo n g kd xs hv _ => by simp at hv⟩
  | v :: vs, h => by
    cases v with
    | part id lo n =>
      simp only [partsIn] at h
      split at h
      · rename_i g kd xs hb
        rw [chk_some] at h
        obtain ⟨h1, h2⟩ := partsIn_some h.2
        refine ⟨h1, fun t id' lo' n' g' kd' xs' hv hb' => ?_⟩
        cases t with
        | zero =>
          simp at hv
          obtain ⟨rfl, rfl, rfl⟩ := hv
          rw [hb] at hb'
          simp only [Option.some.injEq, Blk.ints.injEq] at hb'
          rw [← hb'.2.2]; exact h.1
        | succ t => simp at hv; exact h2 t _ _ _ _ _ _ hv hb'
      · simp at h
    | _ =>
      simp only [partsIn] at h
      obtain ⟨h1, h2⟩ := partsIn_some h
      refine ⟨h1, fun t id' lo' n' g' kd' xs' hv hb' => ?_⟩
      cases t with
      | zero => simp at hv
      | succ t => simp at hv; exact h2 t _ _ _ _ _ _ hv hb'

/-- A value under a callee's names is one under the caller's. -/
theorem ren_R {RT' : RoTab} {E' : Env} {ro : Bool} {ρ : Nat → Option Nat} {x : Atom} {u : Value} (hρ : ∀ t id I, ρ t = some id → E.info t = some I → E'.info id = some I) (hro : ro = true → ∀ a v, E.M a = some v → E'.M a = some v)
    (h : R RT' E x u) (hx : ∀ tag, x ≠ .ror tag) : R RT E' (renAtom ro ρ x) u := by
  cases h with
  | unk => exact .unk _
  | bool b => exact .bool b
  | int k n => exact .int k n
  | str s => exact .unk _
  | nilp => exact .nilp
  | ptr h =>
    simp only [renAtom]
    split
    · rename_i id hid; exact .ptr (hρ _ _ _ hid h)
    · exact .unk _
  | eptr h hi hj => exact .unk _
  | nils => exact .unk _
  | full h hb hn hc hg =>
    simp only [renAtom]
    split
    · rename_i id hid; exact .full (hρ _ _ _ hid h) hb hn hc hg
    · exact .unk _
  | sub => exact .unk _
  | roi hc hq =>
    cases ro with
    | false => exact .unk _
    | true => exact .roi hc fun i hi => let ⟨a, hb, hs, hm⟩ := hq i hi; ⟨a, hb, hs, hro rfl _ _ hm⟩
  | ror => exact absurd rfl (hx _)
  | rop => exact .unk _
  | @fn f cap vs hn hr =>
    cases f with
    | func f =>
      cases cap with
      | nil => exact .fn hn fun j x hj => by simp at hj
      | cons c cs => exact .unk _
    | _ => exact .unk _
  | nilf => exact .unk _
  | nili => exact .unk _
  | und => exact .unk _
  | @ifa t x v hr =>
    cases hr with
    | ptr h =>
      simp only [renAtom]
      split
      · rename_i id hid; exact .ifa (.ptr (hρ _ _ _ hid h))
      · exact .unk _
    | _ => exact .unk _
  | ifg hn hr => simp only [renAtom]; exact .unk _

theorem fAtom_ror {L Lc : Leaves} {p : Pat} (hp : plainP p = true) : ∀ tag, fAtom L Lc p ≠ .ror tag := by
  intro tag
  cases p <;> simp [fAtom, plainP] at hp ⊢

theorem renAtoms_eq (ro : Bool) (ρ : Nat → Option Nat) : ∀ as : List Atom, renAtoms ro ρ as = as.map (renAtom ro ρ)
  | [] => rfl
  | p :: ps => by simp [renAtoms, renAtoms_eq ro ρ ps]

theorem ren_RCs {RT' : RoTab} {E' : Env} {ro : Bool} {ρ : Nat → Option Nat} {L Lc : Leaves} {ps : List Pat} {vs : Array Value} (hρ : ∀ t id I, ρ t = some id → E.info t = some I → E'.info id = some I) (hro : ro = true → ∀ a v, E.M a = some v → E'.M a = some v)
    (hp : allP plainP ps = true) (h : RCs RT' E (fAtoms L Lc ps) vs) : RCs RT E' (renAtoms ro ρ (fAtoms L Lc ps)) vs := by
  rw [renAtoms_eq]
  refine ⟨by rw [h.1]; simp, fun j x hj => ?_⟩
  rw [List.getElem?_map] at hj
  cases hq : (fAtoms L Lc ps)[j]? with
  | none => simp [hq] at hj
  | some x' =>
    simp [hq] at hj
    subst hj
    refine ren_R hρ hro (h.2 j x' hq) ?_
    rw [fAtoms_eq, List.getElem?_map] at hq
    cases hq' : ps[j]? with
    | none => simp [hq'] at hq
    | some p =>
      simp [hq'] at hq
      subst hq
      exact fAtom_ror (allP_get hp (List.mem_of_getElem? hq'))

theorem renTup_eq (ro : Bool) (ρ : Nat → Option Nat) : ∀ as : List (Bool × List Atom), renTup ro ρ as = as.map fun p => (p.1, renAtoms ro ρ p.2)
  | [] => rfl
  | (g, p) :: ps => by simp [renTup, renTup_eq ro ρ ps]

theorem ren_RV {RT' : RoTab} {E' : Env} {ro : Bool} {ρ : Nat → Option Nat} {L Lc : Leaves} {p : VPat} {u : Value} (hρ : ∀ t id I, ρ t = some id → E.info t = some I → E'.info id = some I) (hro : ro = true → ∀ a v, E.M a = some v → E'.M a = some v)
    (hp : allV plainP p = true) (h : RV RT' E (fAV L Lc p) u) : RV RT E' (renAV ro ρ (fAV L Lc p)) u := by
  cases p with
  | «at» p => exact ren_R (x := fAtom L Lc p) hρ hro h (fAtom_ror hp)
  | agg ps => obtain ⟨vs, rfl, hc⟩ := h; exact ⟨vs, rfl, ren_RCs hρ hro hp hc⟩
  | tup ps =>
    obtain ⟨vs, rfl, hn, hc⟩ := h
    refine ⟨vs, rfl, by rw [hn, renTup_eq]; simp, fun j q hj => ?_⟩
    rw [renTup_eq, List.getElem?_map] at hj
    cases hq : (fTup L Lc ps)[j]? with
    | none => simp [hq] at hj
    | some q' =>
      simp [hq] at hj
      subst hj
      have := hc j q' hq
      rw [fTup_eq, List.getElem?_map] at hq
      cases hq' : ps[j]? with
      | none => simp [hq'] at hq
      | some p =>
        simp [hq'] at hq
        subst hq
        obtain ⟨g, ps'⟩ := p
        have hpl := allT_get hp (List.mem_of_getElem? hq')
        simp only at this hpl ⊢
        cases g with
        | true => obtain ⟨vs', he, hc'⟩ := this; exact ⟨vs', he, ren_RCs hρ hro hpl hc'⟩
        | false =>
          match ps', this, hpl with
          | [p1], this, hpl =>
            simp only [allP, Bool.and_eq_true] at hpl
            exact ren_R (x := fAtom L Lc p1) hρ hro this (fAtom_ror hpl.1)

theorem blt_iff {a b : Nat} : Nat.blt a b = true ↔ a < b := by simp [Nat.blt, Nat.succ_le_iff]

theorem tgt_old {σ : List View} {n nx t : Nat} (h : t < n) : tgt σ n nx t = match σ[t]? with | some v => viewId v | none => none := by
  unfold tgt
  rw [blt_iff.2 h]
  simp only [nth_eq]
  cases σ[t]? with
  | none => rfl
  | some v => cases v <;> rfl

theorem tgt_new {σ : List View} {n nx t : Nat} (h : n ≤ t) : tgt σ n nx t = some (nx + (t - n)) := by
  unfold tgt
  have : Nat.blt t n = false := by
    cases hb : Nat.blt t n with
    | false => rfl
    | true => have := blt_iff.1 hb; omega
  rw [this]

theorem All2.map {α β γ : Type} {r : α → β → Prop} {q : γ → β → Prop} {f : α → γ} : ∀ {as : List α} {bs : List β}, All2 r as bs → (∀ x ∈ as, ∀ z, r x z → q (f x) z) → All2 q (as.map f) bs
  | _, _, .nil, _ => .nil
  | _, _, .cons h hs, hk => .cons (hk _ (by simp) _ h) (hs.map fun x hx z hr => hk x (by simp [hx]) z hr)

theorem fAVs_eq (L Lc : Leaves) : ∀ ps : List VPat, fAVs L Lc ps = ps.map (fAV L Lc)
  | [] => rfl
  | p :: ps => by simp [fAVs, fAVs_eq L Lc ps]

theorem allVs_get {f : Pat → Bool} : ∀ {ps : List VPat} {p : VPat}, allVs f ps = true → p ∈ ps → allV f p = true
  | [], p, _, h => by simp at h
  | q :: r, p, h, hm => by
    simp only [allVs, Bool.and_eq_true] at h
    rcases List.mem_cons.1 hm with rfl | hm
    · exact h.1
    · exact allVs_get h.2 hm

theorem All2.comp {α β γ : Type} {r : α → β → Prop} {s : β → γ → Prop} {q : α → γ → Prop} (h : ∀ x z u, r x z → s z u → q x u) :
    ∀ {as : List α} {bs : List β} {cs : List γ}, All2 r as bs → All2 s bs cs → All2 q as cs
  | _, _, _, .nil, .nil => .nil
  | _, _, _, .cons h1 hs, .cons h2 ht => .cons (h _ _ _ h1 h2) (hs.comp h ht)

end Go.Eng
