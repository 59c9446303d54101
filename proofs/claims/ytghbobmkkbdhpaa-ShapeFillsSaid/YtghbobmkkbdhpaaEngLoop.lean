/-
  The engine, part eleven: loops.
  Conditions: none; nothing is claimed of the program here.
-/
import Derived.Test.YtghbobmkkbdhpaaEngReg
import Derived.LoopN
set_option linter.unusedSimpArgs false
set_option linter.unusedVariables false
namespace Go.Eng
variable {RT : RoTab} {E : Env} {F : Fr} {a : Act} {H : Heap} {fp : Fp} {w : World} {P : Program} {Y : Type} {y : Y} {C : Cfg}

/-- What a piece of code comes to. -/
def Post (C : Cfg) {Z : Type} (z : Z) (kr : KS Z) (k : Ex → KS Z) (E : Env) (H : Heap) (fp : Fp) (w : World) (nx : Nat) (a : Act) (n : Nat) (g : Nat → Bool) : Exit → Act → World → Prop
  | .normal, a', w' => ∃ F' H' nx' E' fp', k .normal F' H' nx' = some z ∧ St C.RT E' H' fp' w' F' a' nx' n ∧ Trip C E H fp w nx E' H' fp' w' nx' ∧ Same g a a'
  | .exit id, a', w' => ∃ F' H' nx' E' fp', k (.exit id) F' H' nx' = some z ∧ St C.RT E' H' fp' w' F' a' nx' n ∧ Trip C E H fp w nx E' H' fp' w' nx' ∧ Same g a a'
  | .ret, a', w' => ∃ F' H' nx' E' fp', kr F' H' nx' = some z ∧ St C.RT E' H' fp' w' F' a' nx' n ∧ Trip C E H fp w nx E' H' fp' w' nx' ∧ Same g a a'
  | _, _, _ => False

def CodeOK (C : Cfg) (K : FCfg) (inl : Inl) (c : Code) : Prop :=
  ∀ (Z : Type) (z : Z) (kr : KS Z) (k : Ex → KS Z) (F : Fr) (H : Heap) (nx : Nat) (E : Env) (fp : Fp) (w : World) (a : Act) (n : Nat), evCode C K inl c Z kr k F H nx = some z →
    St C.RT E H fp w F a nx n → dstsOk n c = true → c.wp C.P (Post C z kr k E H fp w nx a n (asg c)) a w

/-- What is told of a loop is kept by its results' type. -/
def AnnOK (A : Ann) : Prop := ∀ L Lc : Leaves,
  A.xslots.map (fun q => fAV (A.enc (A.dec L)) Lc q.2) = A.xslots.map (fun q => fAV L Lc q.2) ∧
  A.xblks.map (fun q => fBlk (A.enc (A.dec L)) Lc q.2) = A.xblks.map (fun q => fBlk L Lc q.2)

theorem fSlots_congr {L L' Lc : Leaves} {F0 : Fr} : ∀ {ps : List (Nat × VPat)}, ps.map (fun q => fAV L' Lc q.2) = ps.map (fun q => fAV L Lc q.2) → fSlots L' Lc F0 ps = fSlots L Lc F0 ps
  | [], _ => rfl
  | (t, p) :: r, h => by
    simp only [List.map_cons, List.cons.injEq] at h
    simp only [fSlots]
    rw [h.1, fSlots_congr h.2]

theorem fHeap_congr {L L' Lc : Leaves} {H0 : Heap} : ∀ {ps : List (Nat × BPat)}, ps.map (fun q => fBlk L' Lc q.2) = ps.map (fun q => fBlk L Lc q.2) → fHeap L' Lc H0 ps = fHeap L Lc H0 ps
  | [], _ => rfl
  | (t, p) :: r, h => by
    simp only [List.map_cons, List.cons.injEq] at h
    simp only [fHeap]
    rw [h.1, fHeap_congr h.2]

theorem fSlots_get (L Lc : Leaves) : ∀ (ps : List (Nat × VPat)) (j : Nat), (∃ q ∈ ps, q.1 = j ∧ ∀ F0, fSlots L Lc F0 ps j = fAV L Lc q.2) ∨ (∀ F0, fSlots L Lc F0 ps j = F0 j)
  | [], j => Or.inr fun F0 => rfl
  | (t, p) :: r, j => by
    by_cases h : j = t
    · subst h
      exact Or.inl ⟨(j, p), by simp, rfl, fun F0 => by simp only [fSlots, putF_same]⟩
    · rcases fSlots_get L Lc r j with ⟨q, hq, hj, hv⟩ | hv
      · exact Or.inl ⟨q, by simp [hq], hj, fun F0 => by simp only [fSlots]; rw [putF_other h, hv]⟩
      · exact Or.inr fun F0 => by simp only [fSlots]; rw [putF_other h, hv]

theorem fHeap_over (L Lc : Leaves) : ∀ (ps : List (Nat × BPat)) (t : Nat), (t ∈ ids ps ∧ ∀ H0, fHeap L Lc H0 ps t = fHeap L Lc noHeap ps t) ∨ (t ∉ ids ps ∧ ∀ H0, fHeap L Lc H0 ps t = H0 t)
  | [], t => Or.inr ⟨by simp [ids], fun H0 => rfl⟩
  | (t', p) :: r, t => by
    by_cases h : t = t'
    · subst h
      exact Or.inl ⟨by simp [ids], fun H0 => by simp only [fHeap, putH_same]⟩
    · rcases fHeap_over L Lc r t with ⟨h1, h2⟩ | ⟨h1, h2⟩
      · exact Or.inl ⟨by simp [ids, h1], fun H0 => by simp only [fHeap]; rw [putH_other h, putH_other h, h2]⟩
      · exact Or.inr ⟨by simp [ids, h1, h], fun H0 => by simp only [fHeap]; rw [putH_other h, h2]⟩

/-! ### Views at a loop -/
theorem viewsOk_get {mov : List Nat} : ∀ {σ : List View} {t i : Nat} {v : View}, viewsOk mov t σ = true → σ[i]? = some v →
    v = .none ∨ v = .whole (t + i) ∨ (t + i ∈ mov ∧ ((∃ id, v = .whole id) ∨ v = .empty))
  | [], t, i, v, _, h => by simp at h
  | v0 :: vs, t, 0, v, h, hv => by
    simp at hv
    subst hv
    cases v0 with
    | none => exact Or.inl rfl
    | whole id =>
      simp only [viewsOk, Bool.and_eq_true, Bool.or_eq_true] at h
      rcases h.1 with h1 | h1
      · have := Nat.eq_of_beq_eq_true h1
        subst this
        exact Or.inr (Or.inl rfl)
      · exact Or.inr (Or.inr ⟨mem_iff.1 h1, Or.inl ⟨id, rfl⟩⟩)
    | empty =>
      simp only [viewsOk, Bool.and_eq_true] at h
      exact Or.inr (Or.inr ⟨mem_iff.1 h.1, Or.inr rfl⟩)
    | part => simp [viewsOk] at h
  | v0 :: vs, t, i + 1, v, h, hv => by
    simp at hv
    have : viewsOk mov (t + 1) vs = true := by cases v0 <;> simp_all [viewsOk]
    have := viewsOk_get this hv
    rwa [show t + 1 + i = t + (i + 1) by omega] at this

theorem wholeIds_mem : ∀ {σ : List View} {t id : Nat}, σ[t]? = some (.whole id) → id ∈ wholeIds σ
  | [], t, id, h => by simp at h
  | v :: vs, 0, id, h => by simp at h; subst h; simp [wholeIds]
  | v :: vs, t + 1, id, h => by
    simp at h
    have := wholeIds_mem h
    cases v <;> simp [wholeIds, this]

theorem viewsIn_get {mov : List Nat} {nx : Nat} : ∀ {σ : List View} {t i : Nat} {v : View}, viewsIn mov nx t σ = true → σ[i]? = some v →
    v = .none ∨ v = .whole (t + i) ∨ (t + i ∈ mov ∧ nx ≤ t + i ∧ (v = .empty ∨ ∃ id, v = .whole id))
  | [], t, i, v, _, h => by simp at h
  | v0 :: vs, t, 0, v, h, hv => by
    simp at hv
    subst hv
    cases v0 with
    | none => exact Or.inl rfl
    | whole id =>
      simp only [viewsIn, Bool.and_eq_true, Bool.or_eq_true] at h
      rcases h.1 with h1 | h1
      · have := Nat.eq_of_beq_eq_true h1
        subst this
        exact Or.inr (Or.inl rfl)
      · exact Or.inr (Or.inr ⟨mem_iff.1 h1.1, by simpa using h1.2, Or.inr ⟨id, rfl⟩⟩)
    | empty =>
      simp only [viewsIn, Bool.and_eq_true] at h
      exact Or.inr (Or.inr ⟨mem_iff.1 h.1, by simpa using h.2.1, Or.inl rfl⟩)
    | part => simp [viewsIn] at h
  | v0 :: vs, t, i + 1, v, h, hv => by
    simp at hv
    have : viewsIn mov nx (t + 1) vs = true := by
      cases v0 with
      | whole id => simp only [viewsIn, Bool.and_eq_true] at h; exact h.2
      | _ => simp_all [viewsIn]
    have := viewsIn_get this hv
    rwa [show t + 1 + i = t + (i + 1) by omega] at this

theorem namedOnly_get {l : List Nat} : ∀ {σ : List View} {t i : Nat} {v : View}, namedOnly l t σ = true → σ[i]? = some v → v = .none ∨ t + i ∈ l
  | [], t, i, v, _, h => by simp at h
  | v0 :: vs, t, 0, v, h, hv => by
    simp at hv
    subst hv
    cases v0 with
    | none => exact Or.inl rfl
    | _ => simp only [namedOnly, Bool.and_eq_true] at h; exact Or.inr (mem_iff.1 h.1)
  | v0 :: vs, t, i + 1, v, h, hv => by
    simp at hv
    have : namedOnly l (t + 1) vs = true := by cases v0 <;> simp_all [namedOnly]
    have := namedOnly_get this hv
    rwa [show t + 1 + i = t + (i + 1) by omega] at this

/-! ### A state under a loop's names -/
open Classical in
noncomputable def baseL (E : Env) (H : Heap) (fp : Fp) (w : World) (σ : List View) (lent mov : List Nat) (nx : Nat) : Env where
  info := fun t => if t < nx then (if t ∈ mov then (baseE E H fp w σ lent).info t else E.info t) else none
  M := (baseE E H fp w σ lent).M

theorem baseL_le {σ : List View} {lent mov : List Nat} {nx : Nat} (hlen : σ.length = nx) (hv : ∀ t v, σ[t]? = some v → v = .none ∨ t ∈ mov ∨ v = .whole t) :
    (baseE E H fp w σ lent).Le (baseL E H fp w σ lent mov nx) where
  info := fun t I hI => by
    have ht : t < nx := by
      rcases Nat.lt_or_ge t nx with h | h
      · exact h
      · simp only [baseE] at hI
        rw [List.getElem?_eq_none (by omega)] at hI
        simp at hI
    simp only [baseL, if_pos ht]
    split
    · exact hI
    · rename_i hm
      cases hs : σ[t]? with
      | none => simp [baseE, hs] at hI
      | some v =>
        rw [baseE_info hs] at hI
        rcases hv t v hs with rfl | h | rfl
        · simp [viewInfo] at hI
        · exact absurd h hm
        · exact hI
  M := fun _ _ h => h

theorem Sim.le {E' : Env} (hle : E.Le E') (hM : ∀ a v, E'.M a = some v → E.M a = some v) (hs : Sim RT E H fp w) : Sim RT E' H fp w where
  blk := fun id b hb => let ⟨I, hI, ok⟩ := hs.blk id b hb; ⟨I, hle.info id I hI, ok.mono hle⟩
  disj := hs.disj
  ro := fun a v h => hs.ro a v (hM a v h)

theorem base_rf {L Lc : Leaves} {σ : List View} {lent : List Nat} {slots : List (Nat × VPat)} (hRT : RTok RT) (hs : Sim RT E H fp w) (hF : RF RT E F a)
    (hsl : ∀ q ∈ slots, MatchV H L Lc σ lent q.2 (F q.1)) : RF RT (baseE E H fp w σ lent) (fSlots L Lc noFr slots) a := by
  intro j
  rcases fSlots_get L Lc slots j with ⟨q, hq, rfl, hv⟩ | hv
  · rw [hv]; exact matchV_RV hRT hs (hsl q hq) (hF q.1)
  · rw [hv]; exact R.unk _

/-- From one state to a later one, names or no. -/
structure Link (hi : Nat) (mv : List Nat) (E : Env) (H : Heap) (fp : Fp) (w : World) (E' : Env) (H' : Heap) (fp' : Fp) (w' : World) : Prop where
  keep : ∀ id I, id < hi → id ∉ mv → E.info id = some I → E'.info id = some I
  M : ∀ a v, E.M a = some v → E'.M a = some v
  frm : Frm w (OwnAll H fp) w'
  own : ∀ x, OwnAll H' fp' x → x.1 < w.heap.size → OwnAll H fp x
  ext : MExt E H fp w E'

theorem Trip.link {nx nx' : Nat} {E' : Env} {H' : Heap} {fp' : Fp} {w' : World} (h : Trip C E H fp w nx E' H' fp' w' nx') : Link C.hi C.mv E H fp w E' H' fp' w' := ⟨h.keep, h.M, h.frm, h.own, h.ext⟩

theorem Link.trans {hi : Nat} {mv : List Nat} {E' E'' : Env} {H' H'' : Heap} {fp' fp'' : Fp} {w' w'' : World}
    (h : Link hi mv E H fp w E' H' fp' w') (k : Link hi mv E' H' fp' w' E'' H'' fp'' w'') : Link hi mv E H fp w E'' H'' fp'' w'' where
  keep := fun id I h1 h2 hI => k.keep id I h1 h2 (h.keep id I h1 h2 hI)
  M := fun a v ha => k.M a v (h.M a v ha)
  frm := h.frm.trans k.frm h.own
  own := fun x hx hlt => h.own x (k.own x hx (Nat.lt_of_lt_of_le hlt h.frm.size)) hlt
  ext := h.ext.trans k.ext h.frm.size h.own

theorem base_link {L Lc : Leaves} {σ : List View} {lent mov : List Nat} {blks : List (Nat × BPat)} {nx : Nat} (hs : Sim RT E H fp w)
    (hm : ∀ q ∈ blks, q.2 = .dead ∨ ∃ v, σ[q.1]? = some v ∧ MatchB H L Lc σ lent q.2 v)
    (hp : ∀ (t id lo n : Nat) g kd xs, σ[t]? = some (.part id lo n) → H id = some (.ints g kd xs) → lo + n ≤ xs.length) :
    Link nx mov E H fp w (baseL E H fp w σ lent mov nx) (fHeap L Lc noHeap blks) (baseFp E fp σ) w where
  keep := fun id I h1 h2 hI => by simp only [baseL, if_pos h1, if_neg h2]; exact hI
  M := fun a v h => baseE_M (H := H) (fp := fp) (w := w) (σ := σ) (lent := lent) h
  frm := .refl _ _
  own := fun x ⟨t, b, hb, hx⟩ _ => by
    obtain ⟨v, id, b', _, _, h3, h4⟩ := base_own hs hm hp hb hx
    exact ⟨id, b', h3, h4⟩
  ext := fun ad v h => baseE_ext (σ := σ) (lent := lent) ad v h

/-- The rounds of a loop, whether it may return or no. -/
def loopG {Z : Type} (A : Ann) (Lc : Leaves) (body : EvC) (kr : KS Z) (fin : A.T → Z) : Nat → Leaves → Option Z
  | 0, _ => none
  | n + 1, L => body Z kr (fun ex F H _ => match ex with
      | .normal => mState A.nx H (some Lc) F A.slots A.blks fun m =>
          gate (namedOnly (ids A.blks) 0 m.σ && (viewsOk A.mov 0 m.σ && viewsApart m.σ)) (gate (lentApart m.σ m.lent) (loopG A Lc body kr fin n m.leaves))
      | .exit id => gate (Nat.beq id A.exId) (mState A.nx H (some Lc) F A.xslots A.xblks fun m =>
          gate (namedOnly (ids A.blks) 0 m.σ && (viewsOk A.mov 0 m.σ && viewsApart m.σ)) (gate (lentApart m.σ m.lent) (some (fin (A.dec m.leaves))))))
      (fSlots L Lc noFr A.slots) (fHeap L Lc noHeap A.blks) A.nx

theorem loopF_eq (A : Ann) (Lc : Leaves) (body : EvC) : ∀ n L, loopF A Lc body n L = loopG A Lc body (fun _ _ _ => none) (fun t => t) n L
  | 0, _ => rfl
  | n + 1, L => by simp only [loopF, loopG, loopF_eq A Lc body n]; rfl

theorem loopR_eq (A : Ann) (Lc : Leaves) (body : EvC) (kr : KS Y) : ∀ n L, loopR A Lc body kr n L = loopG A Lc body (fun F H nx => omap (kr F H nx) .inr) .inl n L
  | 0, _ => rfl
  | n + 1, L => by simp only [loopR, loopG, loopR_eq A Lc body kr n]; rfl

/-- At the head of a loop. -/
structure Head (C : Cfg) (A : Ann) (Lc : Leaves) (E0 : Env) (H0 : Heap) (fp0 : Fp) (w0 : World) (a0 : Act) (n : Nat) (g : Nat → Bool) (L : Leaves) (E : Env) (fp : Fp) (w : World) (a : Act) : Prop where
  st : St C.RT E (fHeap L Lc noHeap A.blks) fp w (fSlots L Lc noFr A.slots) a A.nx n
  link : Link A.nx A.mov E0 H0 fp0 w0 E (fHeap L Lc noHeap A.blks) fp w
  same : Same g a0 a

/-- Where a loop is left. -/
def LoopPost {Z : Type} (C : Cfg) (A : Ann) (Lc : Leaves) (kr : KS Z) (fin : A.T → Z) (z : Z) (E0 : Env) (H0 : Heap) (fp0 : Fp) (w0 : World) (a0 : Act) (n : Nat) (g : Nat → Bool) : Exit → Act → World → Prop
  | .exit id, a', w' => id = A.exId ∧ ∃ L' Ex fpx, fin (A.dec L') = z ∧ St C.RT Ex (fHeap L' Lc noHeap A.xblks) fpx w' (fSlots L' Lc noFr A.xslots) a' A.nx n ∧
      (∀ t I, Ex.info t = some I → t < A.nx ∧ t ∈ ids A.blks ∧ (t ∈ A.mov ∨ E0.info t = some I)) ∧ Frm w0 (OwnAll H0 fp0) w' ∧
      (∀ x, OwnAll (fHeap L' Lc noHeap A.xblks) fpx x → x.1 < w0.heap.size → OwnAll H0 fp0 x) ∧ Same g a0 a' ∧
      (A.plain = false → (∀ ad v, E0.M ad = some v → Ex.M ad = some v) ∧ MExt E0 H0 fp0 w0 Ex)
  | .ret, a', w' => ∃ F' H' nx' E' fp', kr F' H' nx' = some z ∧ St C.RT E' H' fp' w' F' a' nx' n ∧ Link A.nx A.mov E0 H0 fp0 w0 E' H' fp' w' ∧ A.nx ≤ nx' ∧ Same g a0 a'
  | _, _, _ => False

theorem loop_rounds {K : FCfg} {inl : Inl} {A : Ann} {c : Code} {Z : Type} {z : Z} {Lc : Leaves} {kr : KS Z} {fin : A.T → Z} {E0 : Env} {H0 : Heap} {fp0 : Fp} {w0 : World} {a0 : Act} {n : Nat}
    (hRT : RTok C.RT) (hb : CodeOK (C.inLoop A) K inl c) (hd : dstsOk n c = true) (hlive : ∀ t ∈ ids A.blks, ∃ J, E0.info t = some J) :
    ∀ (N : Nat) (L : Leaves) (E : Env) (fp : Fp) (w : World) (a : Act), loopG A Lc (evCode (C.inLoop A) K inl c) kr fin N L = some z → Head C A Lc E0 H0 fp0 w0 a0 n (asg c) L E fp w a →
      Code.rounds C.P c (LoopPost C A Lc kr fin z E0 H0 fp0 w0 a0 n (asg c)) N a w
  | 0, L, E, fp, w, a, hk, _ => by simp [loopG] at hk
  | N + 1, L, E, fp, w, a, hk, hh => by
    simp only [loopG] at hk
    rw [rounds_succ]
    refine wp_mono (hb Z z _ _ _ _ _ E fp w a n hk hh.st hd) fun e a' w' hq => ?_
    cases e with
    | normal =>
      obtain ⟨F', H', nx', E', fp', g1, g2, g3, g4⟩ := hq
      simp only [mState] at g1
      obtain ⟨m1, h1, e1, k1⟩ := mSlots_sound g1
      obtain ⟨m, h2, e2, k2⟩ := mBlks_sound h1
      rw [gate_some, gate_some] at h2
      obtain ⟨hg, hla, hnext⟩ := h2
      simp only [Bool.and_eq_true] at hg
      obtain ⟨hn, hvo, hva⟩ := hg
      have hsl := k1 m e2
      have hbl := k2 m (.refl m)
      simp only [lcOf] at hsl hbl
      have hlen : m.σ.length = A.nx := by rw [(e1.trans e2).σlen]; exact nones_length _
      have hv : ∀ t v, m.σ[t]? = some v → v = .none ∨ t ∈ A.mov ∨ v = .whole t := by
        intro t v h
        rcases viewsOk_get hvo h with h | h | ⟨h, _⟩
        · exact Or.inl h
        · rw [Nat.zero_add] at h; exact Or.inr (Or.inr h)
        · rw [Nat.zero_add] at h; exact Or.inr (Or.inl h)
      have hp : ∀ (t id lo n : Nat) g kd xs, m.σ[t]? = some (.part id lo n) → H' id = some (.ints g kd xs) → lo + n ≤ xs.length := by
        intro t id lo n g kd xs h _
        rcases viewsOk_get hvo h with h | h | ⟨_, ⟨id', h⟩ | h⟩ <;> simp at h
      have hle := baseL_le (E := E') (H := H') (fp := fp') (w := w') (lent := m.lent) hlen hv
      have hsim := (Sim.base hRT g2.sim hbl hva hla hp).le hle (fun _ _ h => h)
      have hrf := (base_rf hRT g2.sim g2.rf hsl).mono hle
      refine loop_rounds hRT hb hd hlive N m.leaves _ _ w' a' hnext ⟨⟨hsim, fun id hid => ?_, hrf, g2.size, g2.df⟩, ?_, hh.same.trans g4⟩
      · simp only [baseL]; rw [if_neg (by omega)]
      · exact (hh.link.trans g3.link).trans (base_link g2.sim hbl hp)
    | exit id =>
      obtain ⟨F', H', nx', E', fp', g1, g2, g3, g4⟩ := hq
      simp only at g1
      rw [gate_some] at g1
      obtain ⟨hid, g1⟩ := g1
      simp only [mState] at g1
      obtain ⟨m1, h1, e1, k1⟩ := mSlots_sound g1
      obtain ⟨m, h2, e2, k2⟩ := mBlks_sound h1
      rw [gate_some, gate_some] at h2
      obtain ⟨hg, hla, hnext⟩ := h2
      simp only [Bool.and_eq_true] at hg
      obtain ⟨hn, hvo, hva⟩ := hg
      have hsl := k1 m e2
      have hbl := k2 m (.refl m)
      simp only [lcOf] at hsl hbl
      have hlen : m.σ.length = A.nx := by rw [(e1.trans e2).σlen]; exact nones_length _
      have hp : ∀ (t id lo n : Nat) g kd xs, m.σ[t]? = some (.part id lo n) → H' id = some (.ints g kd xs) → lo + n ≤ xs.length := by
        intro t id lo n g kd xs h _
        rcases viewsOk_get hvo h with h | h | ⟨_, ⟨id', h⟩ | h⟩ <;> simp at h
      have hlk := hh.link.trans g3.link
      have hsim := Sim.base hRT g2.sim hbl hva hla hp
      simp only [Option.some.injEq] at hnext
      refine ⟨Nat.eq_of_beq_eq_true hid, m.leaves, _, _, hnext, ⟨hsim, fun id hid => ?_, base_rf hRT g2.sim g2.rf hsl, g2.size, g2.df⟩, fun t I hI => ?_, hlk.frm, fun x hx hlt => ?_, hh.same.trans g4, fun hpl => ?_⟩
      · simp only [baseE]; rw [List.getElem?_eq_none (by omega)]
      · cases hs : m.σ[t]? with
        | none => simp [baseE, hs] at hI
        | some v =>
          rw [baseE_info hs] at hI
          have ht : t < A.nx := by
            rcases Nat.lt_or_ge t A.nx with h | h
            · exact h
            · rw [List.getElem?_eq_none (by omega)] at hs; simp at hs
          have hmem : t ∈ ids A.blks := by
            rcases namedOnly_get hn hs with rfl | h
            · simp [viewInfo] at hI
            · simpa using h
          refine ⟨ht, hmem, ?_⟩
          by_cases hmv : t ∈ A.mov
          · exact Or.inl hmv
          · right
            rcases viewsOk_get hvo hs with rfl | h | ⟨h, _⟩
            · simp [viewInfo] at hI
            · rw [Nat.zero_add] at h
              subst h
              simp only [viewInfo] at hI
              obtain ⟨J, hJ⟩ := hlive t hmem
              have := hlk.keep t J ht hmv hJ
              rw [this] at hI
              rw [hJ, hI]
            · rw [Nat.zero_add] at h; exact absurd h hmv
      · obtain ⟨t, b, hb', hx'⟩ := hx
        obtain ⟨v, id', b', _, _, h3, h4⟩ := base_own g2.sim hbl hp hb' hx'
        exact hlk.own x ⟨id', b', h3, h4⟩ hlt
      · refine ⟨fun ad v h => baseE_M (hlk.M ad v h), fun ad v h => ?_⟩
        rcases baseE_ext (σ := m.σ) (lent := m.lent) ad v h with h | h | h
        · exact hlk.ext ad v h
        · exact Or.inr (Or.inl (Nat.le_trans hlk.frm.size h))
        · rcases Nat.lt_or_ge ad.block w0.heap.size with hl | hl
          · exact Or.inr (Or.inr (hlk.own _ h hl))
          · exact Or.inr (Or.inl hl)
    | ret =>
      obtain ⟨F', H', nx', E', fp', g1, g2, g3, g4⟩ := hq
      exact ⟨F', H', nx', E', fp', g1, g2, hh.link.trans g3.link, g3.nx, hh.same.trans g4⟩
    | goto l => exact hq.elim
    | panic ch => exact hq.elim
    | outgrown => exact hq.elim

end Go.Eng
