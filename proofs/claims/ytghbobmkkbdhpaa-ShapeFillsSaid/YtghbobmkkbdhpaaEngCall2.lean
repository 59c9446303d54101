/-
  The engine, part eight: a call by its callee's contract.
  Conditions: none; nothing is claimed of the program here.
-/
import Derived.Test.YtghbobmkkbdhpaaEngCall
set_option linter.unusedSimpArgs false
set_option linter.unusedVariables false
namespace Go.Eng
variable {RT : RoTab} {E : Env} {F : Fr} {a : Act} {H : Heap} {fp : Fp} {w : World} {P : Program} {Y : Type} {y : Y}

theorem matchB_view {L Lc : Leaves} {σ : List View} {lent : List Nat} {p : BPat} {v : View} (h : MatchB H L Lc σ lent p v) :
    v = .empty ∨ ∃ id b, viewId v = some id ∧ H id = some b := by
  unfold MatchB at h
  split at h
  · obtain ⟨cs, hb, _⟩ := h; exact Or.inr ⟨_, _, rfl, hb⟩
  · obtain ⟨cs, hb, _⟩ := h; exact Or.inr ⟨_, _, rfl, hb⟩
  · obtain ⟨cs, hb, _⟩ := h; exact Or.inr ⟨_, _, rfl, hb⟩
  · obtain ⟨_, g', xs, hb, _⟩ := h; exact Or.inr ⟨_, _, rfl, hb⟩
  · obtain ⟨_, g', xs, hb, _⟩ := h; exact Or.inr ⟨_, _, rfl, hb⟩
  · exact Or.inl rfl
  · exact Or.inl rfl
  · rcases h with ⟨g', hb, _⟩ | ⟨_, kd, xss, i, b, gb, ys, _, hb, _⟩ <;> exact Or.inr ⟨_, _, rfl, hb⟩
  · obtain ⟨cs, hb, _⟩ := h; exact Or.inr ⟨_, _, rfl, hb⟩
  · obtain ⟨cs, hb, _⟩ := h; exact Or.inr ⟨_, _, rfl, hb⟩
  · exact h.elim

theorem base_own {L Lc : Leaves} {σ : List View} {lent : List Nat} {blks : List (Nat × BPat)} (hs : Sim RT E H fp w)
    (hm : ∀ q ∈ blks, q.2 = .dead ∨ ∃ v, σ[q.1]? = some v ∧ MatchB H L Lc σ lent q.2 v)
    (hp : ∀ (t id lo n : Nat) g kd xs, σ[t]? = some (.part id lo n) → H id = some (.ints g kd xs) → lo + n ≤ xs.length) {x : Nat × Nat} {t : Nat} {b : Blk}
    (hb : fHeap L Lc noHeap blks t = some b) (hx : baseFp E fp σ t x) : ∃ v id b', σ[t]? = some v ∧ viewId v = some id ∧ H id = some b' ∧ fp id x := by
  rcases fHeap_get L Lc noHeap hb with ⟨q, hq, rfl, h2⟩ | ⟨h1, _⟩
  · rcases hm q hq with hd | ⟨v, h3, h4⟩
    · rw [hd] at h2; simp [fBlk] at h2
    · simp only [baseFp, h3] at hx
      obtain ⟨id, b', g1, g2, g3⟩ := viewFp_sub hs h4 (fun id lo n g kd xs he hb' => by subst he; exact hp _ _ _ _ _ _ _ h3 hb') hx
      exact ⟨v, id, b', h3, g1, g2, g3⟩
  · simp [noHeap] at h1

theorem renBlk_some {ro : Bool} {ρ : Nat → Option Nat} {b : Blk} {o : Option Blk} (h : renBlk ro ρ o = some b) : ∃ b', o = some b' := by
  cases o with
  | none => simp [renBlk] at h
  | some b' => exact ⟨b', rfl⟩

theorem partB_some {lo n : Nat} {o b : Option Blk} {c : Blk} (h : partB lo n o b = some c) :
    ∃ g kd xs g' ys, o = some (.ints g kd xs) ∧ b = some (.ints g' kd ys) ∧ c = .ints g kd (xs.take lo ++ (ys ++ xs.drop (lo + n))) := by
  cases o with
  | none => simp [partB] at h
  | some bo =>
    cases b with
    | none => cases bo <;> simp [partB] at h
    | some bb =>
      cases bo with
      | ints g kd xs =>
        cases bb with
        | ints g' kd' ys =>
          simp only [partB] at h
          split at h
          · rename_i he
            have := eqK_iff.1 he
            subst this
            simp only [Option.some.injEq] at h
            exact ⟨g, kd, xs, g', ys, rfl, rfl, h.symm⟩
          · simp at h
        | _ => simp [partB] at h
      | _ => simp [partB] at h

/-- A block under a callee's names is one under the caller's. -/
theorem renBlk_ok {RT' : RoTab} {E' : Env} {ro : Bool} {ρ : Nat → Option Nat} {L Lc : Leaves} {p : BPat} {b b' : Blk} {I : Info} {f : Nat × Nat → Prop}
    (hρ : ∀ t id I, ρ t = some id → E.info t = some I → E'.info id = some I) (hro : ro = true → ∀ a v, E.M a = some v → E'.M a = some v) (hp : ∀ wd ps, p = .cells wd ps → allP plainP ps = true) (hb : fBlk L Lc p = some b)
    (hr : renBlk ro ρ (some b) = some b') (ok : BlkOK RT' E b I f w) : BlkOK RT E' b' I f w where
  own := ok.own
  cap := ok.cap
  live := ok.live
  kind := by
    have hk := ok.kind
    cases p with
    | cells wd ps =>
      simp only [fBlk, Option.some.injEq] at hb
      subst hb
      simp only [renBlk, Option.some.injEq] at hr
      subst hr
      refine ⟨hk.1, by rw [hk.2.1, renAtoms_eq]; simp, hk.2.2.1, fun j x hj => ?_⟩
      rw [renAtoms_eq, List.getElem?_map] at hj
      cases hq : (fAtoms L Lc ps)[j]? with
      | none => simp [hq] at hj
      | some x' =>
        simp [hq] at hj
        subst hj
        obtain ⟨v, hv, hr⟩ := hk.2.2.2 j x' hq
        refine ⟨v, hv, ren_R hρ hro hr ?_⟩
        rw [fAtoms_eq, List.getElem?_map] at hq
        cases hq' : ps[j]? with
        | none => simp [hq'] at hq
        | some p =>
          simp [hq'] at hq
          subst hq
          exact fAtom_ror (allP_get (hp _ _ rfl) (List.mem_of_getElem? hq'))
    | ints g k i => simp only [fBlk, Option.some.injEq] at hb; subst hb; simp only [renBlk, Option.some.injEq] at hr; subst hr; exact hk
    | fints g k i => simp only [fBlk, Option.some.injEq] at hb; subst hb; simp only [renBlk, Option.some.injEq] at hr; subst hr; exact hk
    | recs g T i =>
      simp only [fBlk, Option.some.injEq] at hb; subst hb
      cases ro with
      | false => simp [renBlk] at hr
      | true =>
        simp only [renBlk, Option.some.injEq] at hr; subst hr
        exact ⟨hk.1, hk.2.1, hk.2.2.1, fun i j x hi hj => let ⟨v, hv, hr⟩ := hk.2.2.2 i j x hi hj; ⟨v, hv, recA_R hj (hro rfl) hr⟩⟩
    | frecs g T i =>
      simp only [fBlk, Option.some.injEq] at hb; subst hb
      cases ro with
      | false => simp [renBlk] at hr
      | true =>
        simp only [renBlk, Option.some.injEq] at hr; subst hr
        exact ⟨hk.1, hk.2.1, hk.2.2.1, fun i j x hi hj => let ⟨v, hv, hr⟩ := hk.2.2.2 i j x hi hj; ⟨v, hv, recA_R hj (hro rfl) hr⟩⟩
    | fhole k i hi t => simp only [fBlk, Option.some.injEq] at hb; subst hb; simp [renBlk] at hr
    | dead => simp [fBlk] at hb

/-- A part's block is put back into the whole. -/
theorem part_ok {O : Nat × Nat → Prop} {w' : World} {lo n : Nat} {g g' : Bool} {kd : IntKind} {xs ys : List Int} {I : Info} {f1 f : Nat × Nat → Prop} {RT' : RoTab} {E1 : Env}
    (hf : Frm w O w') (ok : BlkOK RT E (.ints g kd xs) I f w) (ok1 : BlkOK RT' E1 (.ints g' kd ys) ⟨I.cb, I.coff + lo, n, n, 1, false⟩ f1 w')
    (hl : lo + n ≤ xs.length) (hO : ∀ x, f x → O x → I.coff + lo ≤ x.2 ∧ x.2 < I.coff + lo + n) :
    BlkOK RT E (.ints g kd (xs.take lo ++ (ys ++ xs.drop (lo + n)))) I f w' := by
  obtain ⟨k1, k2, k3, k4⟩ := ok.kind
  obtain ⟨l1, l2, l3, l4⟩ := ok1.kind
  simp only at l1 l2 l4
  have hcap := ok.cap
  have hlen : (xs.take lo ++ (ys ++ xs.drop (lo + n))).length = xs.length := by simp; omega
  refine ⟨ok.own, ok.cap, fun x hx => ?_, k1, by rw [hlen]; exact k2, k3, fun j hj => ?_⟩
  · obtain ⟨v, hv, hfz⟩ := ok.live x hx
    obtain ⟨v', hv'⟩ := hf.live hv
    refine ⟨v', hv', ?_⟩
    rw [hf.frozen (a := ⟨x.1, x.2, none⟩) (by
      unfold World.cell? at hv
      split at hv
      · rename_i h; exact heap_lt h
      · simp at hv)]
    exact hfz
  · rw [hlen] at hj
    have hx : f (I.cb, I.coff + j) := (ok.own _).2 ⟨rfl, by simp, by simp only [k1]; split <;> omega⟩
    have keep : (j < lo ∨ lo + n ≤ j) → w'.cell? ⟨I.cb, I.coff + j, none⟩ = some (.int kd (xs.getD j 0)) := by
      intro hj'
      refine hf.cell (k4 j hj) fun ho => ?_
      obtain ⟨h1, h2⟩ := hO _ hx ho
      simp only at h1 h2
      omega
    rcases Nat.lt_or_ge j lo with h | h
    · rw [keep (Or.inl h)]
      congr 2
      simp only [List.getD_eq_getElem?_getD]
      rw [List.getElem?_append_left (by simp; omega), List.getElem?_take_of_lt h]
    · rcases Nat.lt_or_ge j (lo + n) with h' | h'
      · have := l4 (j - lo) (by omega)
        rw [show I.coff + lo + (j - lo) = I.coff + j by omega] at this
        rw [this]
        congr 2
        simp only [List.getD_eq_getElem?_getD]
        rw [List.getElem?_append_right (by simp; omega), List.getElem?_append_left (by simp; omega)]
        congr 2
        simp; omega
      · rw [keep (Or.inr h')]
        congr 2
        simp only [List.getD_eq_getElem?_getD]
        rw [List.getElem?_append_right (by simp; omega), List.getElem?_append_right (by simp; omega), List.getElem?_drop]
        congr 2
        simp; omega

theorem callSpec_sound {f : FuncId} {s : Spec} {N nx : Nat} {args : List AV} {cargs : Array Value} {k : AV → Heap → Nat → Option Y} (hok : CallOK P f s) (hRT : RTok RT)
    (hs : Sim RT E H fp w) (hf : Fresh E nx) (ha : All2 (RV RT E) args cargs.toList) (hk : callSpec N s args H nx k = some y) :
    Calls P f cargs w fun e w' => ∃ u E' H' fp' nx' v, e = .returned u ∧ k v H' nx' = some y ∧ RV RT E' v u ∧ Sim RT E' H' fp' w' ∧ Step E H fp w nx E' H' fp' w' nx' := by
  unfold callSpec at hk
  obtain ⟨m1, h1, e1, k1⟩ := mAVs_sound hk
  obtain ⟨m, h2, e2, k2⟩ := mBlks_sound h1
  rw [gate_some] at h2
  obtain ⟨hg, h3⟩ := h2
  simp only [Bool.and_eq_true] at hg
  obtain ⟨_, hva, hla⟩ := hg
  obtain ⟨h4, hparts⟩ := partsIn_some h3
  rw [hok.cps, obind_some] at h4
  obtain ⟨L', hrun, h5⟩ := h4
  have hspec := hok.ok
  unfold specOk at hspec
  simp only [Bool.and_eq_true] at hspec
  obtain ⟨q1, q2, q3, q4, q5, q6, q7, q8, q9, q10, q11, q12⟩ := hspec
  have hargs := k1 m e2
  have hblks := k2 m (.refl m)
  simp only [lcOf] at hargs hblks
  have hσ : m.σ.length = s.n := by rw [(e1.trans e2).σlen]; exact nones_length _
  have hbase := Sim.base hRT hs hblks hva hla hparts
  have hnf : fHeap m.leaves m.fixed noHeap s.pre = fHeap m.leaves m.leaves noHeap s.pre := fHeap_noFix q6 q7
  have hown0 : ∀ {x t b}, fHeap m.leaves m.leaves noHeap s.pre t = some b → baseFp E fp m.σ t x → ∃ v id b', m.σ[t]? = some v ∧ viewId v = some id ∧ H id = some b' ∧ fp id x := by
    intro x t b hb hx
    rw [← hnf] at hb
    exact base_own hs hblks hparts hb hx
  rw [hnf] at hbase
  have hb' := hbase.anyRT (RT' := noRT) q2
  have hargs' : All2 (RV noRT (baseE E H fp w m.σ m.lent)) (fAVs m.leaves m.leaves s.args) cargs.toList := by
    rw [fAVs_eq]
    have h := All2.comp (s := RV RT E) (q := fun p u => RV RT (baseE E H fp w m.σ m.lent) (fAV m.leaves m.fixed p) u) (fun p x u hm hx => matchV_RV hRT hs hm hx) hargs ha
    refine h.map fun p hp u hr => ?_
    rw [← fAV_noFix (Lc := m.fixed) (allVs_get q5 hp)]
    exact fAV_RT (allVs_get q1 hp) hr
  have hfc : Fresh (baseE E H fp w m.σ m.lent) s.n := fun id hid => by
    simp only [baseE]
    rw [List.getElem?_eq_none (by omega)]
  have hpre : ∀ t, t < s.n → ∃ v, m.σ[t]? = some v ∧ (v = .empty ∨ ∃ id b, viewId v = some id ∧ H id = some b) := by
    intro t ht
    obtain ⟨p, hp, hd⟩ := idsLive_get (upTo_mem q11 ht)
    rcases hblks _ hp with h | ⟨v, hv, hm⟩
    · exact absurd h hd
    · exact ⟨v, hv, matchB_view hm⟩
  have hplive : ∀ t, t < s.n → ∃ b, fHeap m.leaves m.leaves noHeap s.pre t = some b := by
    intro t ht
    obtain ⟨p, hp, hd⟩ := idsLive_get (upTo_mem q11 ht)
    rw [fHeap_live q12 hp]
    exact fBlk_live.1 hd
  refine (hok.calls N m.leaves L' _ _ w cargs hrun hb' hargs' hfc).mono fun e w' ⟨E1, fp1, u, he, hret, hsim, hfrm, hown, hinfo, hM1, hext⟩ => ?_

  have hlt : ∀ {id b}, H id = some b → id < nx := fun {id b} hb => by
    rcases Nat.lt_or_ge id nx with h | h
    · exact h
    · rw [fresh_heap hs hf h] at hb; simp at hb
  -- the ids
  have hinj : ∀ t t' id, tgt m.σ s.n nx t = some id → tgt m.σ s.n nx t' = some id → t = t' := by
    have old : ∀ {t id}, t < s.n → tgt m.σ s.n nx t = some id → ∃ v, m.σ[t]? = some v ∧ viewId v = some id ∧ id < nx := by
      intro t id ht h
      rw [tgt_old ht] at h
      obtain ⟨v, hv, hv'⟩ := hpre t ht
      simp only [hv] at h
      refine ⟨v, hv, h, ?_⟩
      rcases hv' with rfl | ⟨id', b, h1, h2⟩
      · simp [viewId] at h
      · rw [h] at h1; obtain rfl := Option.some.inj h1; exact hlt h2
    intro t t' id h h'
    rcases Nat.lt_or_ge t s.n with ht | ht <;> rcases Nat.lt_or_ge t' s.n with ht' | ht'
    · obtain ⟨v, g1, g2, _⟩ := old ht h
      obtain ⟨v', g1', g2', _⟩ := old ht' h'
      rcases Nat.decEq t t' with hne | he
      · exact absurd rfl (viewsApart_ne hva hne g1 g1' g2 g2')
      · exact he
    · obtain ⟨v, g1, g2, g3⟩ := old ht h
      rw [tgt_new ht'] at h'
      simp only [Option.some.injEq] at h'
      omega
    · obtain ⟨v, g1, g2, g3⟩ := old ht' h'
      rw [tgt_new ht] at h
      simp only [Option.some.injEq] at h
      omega
    · rw [tgt_new ht] at h
      rw [tgt_new ht'] at h'
      simp only [Option.some.injEq] at h h'
      omega
  -- whose cells
  have F1 : ∀ {x}, OwnAll (fHeap m.leaves m.leaves noHeap s.pre) (baseFp E fp m.σ) x → ∃ t v id b, t < s.n ∧ m.σ[t]? = some v ∧ viewId v = some id ∧ H id = some b ∧ fp id x ∧ baseFp E fp m.σ t x := by
    rintro x ⟨t, b, hb, hx⟩
    obtain ⟨v, id, b', g1, g2, g3, g4⟩ := hown0 hb hx
    refine ⟨t, v, id, b', ?_, g1, g2, g3, g4, hx⟩
    rcases Nat.lt_or_ge t s.n with h | h
    · exact h
    · rw [List.getElem?_eq_none (by omega)] at g1; simp at g1
  have F2 : ∀ {id b x}, H id = some b → fp id x → OwnAll (fHeap m.leaves m.leaves noHeap s.pre) (baseFp E fp m.σ) x →
      ∃ t v, t < s.n ∧ m.σ[t]? = some v ∧ viewId v = some id ∧ baseFp E fp m.σ t x := by
    intro id b x hb hx ho
    obtain ⟨t, v, id', b', g0, g1, g2, g3, g4, g5⟩ := F1 ho
    rcases Nat.decEq id' id with hne | he
    · exact absurd hx (hs.disj _ _ _ _ x g3 hb hne g4)
    · exact ⟨t, v, g0, g1, he ▸ g2, g5⟩
  have F3 : ∀ {t b x}, fHeap L' m.leaves noHeap s.post t = some b → fp1 t x → x.1 < w.heap.size → OwnAll (fHeap m.leaves m.leaves noHeap s.pre) (baseFp E fp m.σ) x :=
    fun {t b x} hb hx hl => hown x ⟨t, b, hb, hx⟩ hl
  have hplv : ∀ {t b}, fHeap L' m.leaves noHeap s.post t = some b → ∃ p, (t, p) ∈ s.post ∧ p ≠ .dead ∧ fBlk L' m.leaves p = some b := by
    intro t b hb
    rcases fHeap_get _ _ _ hb with ⟨⟨t', p⟩, hq, rfl, h2⟩ | ⟨h1, _⟩
    · exact ⟨p, hq, fBlk_live.2 ⟨b, h2⟩, h2⟩
    · simp [noHeap] at h1
  have hI1 : ∀ {t b}, t < s.n → fHeap L' m.leaves noHeap s.post t = some b → E1.info t = (baseE E H fp w m.σ m.lent).info t := by
    intro t b ht hb
    obtain ⟨p, hp, hd, _⟩ := hplv hb
    exact hinfo t ht (idsLive_mem hp hd)
  have F4 : ∀ {t b}, t < s.n → fHeap L' m.leaves noHeap s.post t = some b → ∀ x, fp1 t x ↔ baseFp E fp m.σ t x := by
    intro t b ht hb x
    obtain ⟨I1, g1, ok1⟩ := hsim.blk t b hb
    obtain ⟨b0, hb0⟩ := hplive t ht
    obtain ⟨I0, g0, ok0⟩ := hbase.blk t b0 hb0
    rw [hI1 ht hb, g0] at g1
    obtain rfl := Option.some.inj g1
    exact (ok1.own x).trans (ok0.own x).symm
  -- the state behind
  let E' : Env := ⟨fun id => if id < nx then E.info id else if s.n + (id - nx) ∈ idsLive s.post then E1.info (s.n + (id - nx)) else none, if noLent m.lent = true then E1.M else E.M⟩
  let fp' : Fp := fun id => if id < nx then fp id else fp1 (s.n + (id - nx))
  have hfro : ∀ {id}, id < nx → fp' id = fp id := fun {id} h => by simp [fp', h]
  have hfrn : ∀ {t}, s.n ≤ t → fp' (nx + (t - s.n)) = fp1 t := fun {t} h => by
    have h1 : ¬ nx + (t - s.n) < nx := by omega
    have h2 : s.n + (nx + (t - s.n) - nx) = t := by omega
    simp only [fp']
    rw [if_neg h1, h2]
  have hle : E.Le E' := ⟨fun id I hI => by
    have : id < nx := by
      rcases Nat.lt_or_ge id nx with h | h
      · exact h
      · rw [hf id h] at hI; simp at hI
    simp only [E', if_pos this]
    exact hI, fun ad v h => by
    simp only [E']
    split
    · exact hM1 _ _ (baseE_M (H := H) (fp := fp) (w := w) (σ := m.σ) (lent := m.lent) h)
    · exact h⟩
  have hro : noLent m.lent = true → ∀ ad v, E1.M ad = some v → E'.M ad = some v := fun hl ad v h => by simp only [E', if_pos hl]; exact h
  have hbM : noLent m.lent = true → ∀ ad v, (baseE E H fp w m.σ m.lent).M ad = some v → E.M ad = some v := fun hl ad v h => baseE_none hl h
  have hold : ∀ {id}, id < nx → E'.info id = E.info id := fun {id} h => by simp only [E', if_pos h]
  have hnew : ∀ {t}, s.n ≤ t → t ∈ idsLive s.post → E'.info (nx + (t - s.n)) = E1.info t := fun {t} h hl => by
    have h1 : ¬ nx + (t - s.n) < nx := by omega
    have h2 : s.n + (nx + (t - s.n) - nx) = t := by omega
    simp only [E']
    rw [if_neg h1, h2, if_pos hl]
  have hρ : ∀ t id I, renId m.σ (idsLive s.post) s.n nx t = some id → E1.info t = some I → E'.info id = some I := by
    intro t id I hr hI
    unfold renId at hr
    split at hr
    · simp at hr
    · rename_i hm
      have hm' := mem_iff.1 hm
      split at hr
      · rename_i hb
        have ht := blt_iff.1 hb
        split at hr
        · rename_i i hn
          simp only [Option.some.injEq] at hr
          subst hr
          rw [nth_eq] at hn
          rw [hinfo t ht hm', baseE_info hn] at hI
          exact hle.info _ _ hI
        · simp at hr
      · rename_i hb
        simp only [Option.some.injEq] at hr
        subst hr
        have ht : s.n ≤ t := by
          rcases Nat.lt_or_ge t s.n with h | h
          · rw [blt_iff.2 h] at hb; simp at hb
          · exact h
        rw [hnew ht hm']
        exact hI
  have hcase : ∀ {id b}, postBlks (noLent m.lent) (renId m.σ (idsLive s.post) s.n nx) m.σ s.n nx L' m.leaves s.post H id = some b →
      (id < nx ∧ H id = some b ∧ ∀ t p, (t, p) ∈ s.post → tgt m.σ s.n nx t ≠ some id) ∨
      (∃ t bp p, (t, p) ∈ s.post ∧ fBlk L' m.leaves p = some bp ∧ fHeap L' m.leaves noHeap s.post t = some bp ∧ t < s.n ∧ m.σ[t]? = some (.whole id) ∧ renBlk (noLent m.lent) (renId m.σ (idsLive s.post) s.n nx) (some bp) = some b) ∨
      (∃ t lo n g kd xs g' ys, fHeap L' m.leaves noHeap s.post t = some (.ints g' kd ys) ∧ t < s.n ∧ m.σ[t]? = some (.part id lo n) ∧ H id = some (.ints g kd xs) ∧ b = .ints g kd (xs.take lo ++ (ys ++ xs.drop (lo + n)))) ∨
      (∃ t bp p, (t, p) ∈ s.post ∧ fBlk L' m.leaves p = some bp ∧ fHeap L' m.leaves noHeap s.post t = some bp ∧ s.n ≤ t ∧ id = nx + (t - s.n) ∧ renBlk (noLent m.lent) (renId m.σ (idsLive s.post) s.n nx) (some bp) = some b) := by
    intro id b hb
    rcases postBlks_get H (ro := noLent m.lent) (ρ := renId m.σ (idsLive s.post) s.n nx) (L := L') (Lc := m.leaves) hinj (ps := s.post) (id := id) q8 with ⟨t, p, hp, ht, heq⟩ | ⟨h1, heq⟩
    · rw [hb] at heq
      have hHp : fHeap L' m.leaves noHeap s.post t = fBlk L' m.leaves p := fHeap_live q8 hp
      rcases Nat.lt_or_ge t s.n with hlt' | hge
      · rw [tgt_old hlt'] at ht
        obtain ⟨v, hv, _⟩ := hpre t hlt'
        simp only [hv] at ht
        unfold postAt at heq
        rw [blt_iff.2 hlt'] at heq
        simp only [nth_eq, hv] at heq
        cases v with
        | none => simp [viewId] at ht
        | empty => simp [viewId] at ht
        | whole i =>
          simp only [viewId, Option.some.injEq] at ht
          subst ht
          obtain ⟨bp, hbp⟩ := renBlk_some heq.symm
          refine Or.inr (Or.inl ⟨t, bp, p, hp, hbp, hHp.trans hbp, hlt', hv, ?_⟩)
          rw [hbp] at heq
          exact heq.symm
        | part i lo n =>
          simp only [viewId, Option.some.injEq] at ht
          subst ht
          obtain ⟨g, kd, xs, g', ys, h1, h2, h3⟩ := partB_some heq.symm
          exact Or.inr (Or.inr (Or.inl ⟨t, lo, n, g, kd, xs, g', ys, hHp.trans h2, hlt', hv, h1, h3⟩))
      · rw [tgt_new hge] at ht
        simp only [Option.some.injEq] at ht
        unfold postAt at heq
        have : Nat.blt t s.n = false := by
          cases hb' : Nat.blt t s.n with
          | false => rfl
          | true => have := blt_iff.1 hb'; omega
        rw [this] at heq
        obtain ⟨bp, hbp⟩ := renBlk_some heq.symm
        rw [hbp] at heq
        exact Or.inr (Or.inr (Or.inr ⟨t, bp, p, hp, hbp, hHp.trans hbp, hge, ht.symm, heq.symm⟩))
    · rw [hb] at heq
      exact Or.inl ⟨hlt heq.symm, heq.symm, h1⟩
  have hview : ∀ {t id}, t < s.n → (∃ v, m.σ[t]? = some v ∧ viewId v = some id) → (∃ b, H id = some b) ∧ tgt m.σ s.n nx t = some id := by
    rintro t id ht ⟨v, hv, hid⟩
    obtain ⟨v', hv', h⟩ := hpre t ht
    rw [hv] at hv'
    obtain rfl := Option.some.inj hv'
    refine ⟨?_, by rw [tgt_old ht, hv]; exact hid⟩
    rcases h with rfl | ⟨id', b, h1, h2⟩
    · simp [viewId] at hid
    · rw [hid] at h1
      obtain rfl := Option.some.inj h1
      exact ⟨b, h2⟩
  have hkeep : ∀ {id b x}, H id = some b → (∀ t p, (t, p) ∈ s.post → tgt m.σ s.n nx t ≠ some id) → fp id x → ¬ OwnAll (fHeap m.leaves m.leaves noHeap s.pre) (baseFp E fp m.σ) x := by
    intro id b x hb hu hx ho
    obtain ⟨t, v, ht, hv, hid, _⟩ := F2 hb hx ho
    obtain ⟨p, hp⟩ := ids_mem.1 (upTo_mem q10 ht)
    exact hu t p hp (hview ht ⟨v, hv, hid⟩).2
  have hplain : ∀ {t p}, (t, p) ∈ s.post → ∀ wd ps, p = .cells wd ps → allP plainP ps = true := fun {t p} hp wd ps he => allB_get q3 hp he
  have hblk : ∀ {id b}, postBlks (noLent m.lent) (renId m.σ (idsLive s.post) s.n nx) m.σ s.n nx L' m.leaves s.post H id = some b → (∃ I, E'.info id = some I ∧ BlkOK RT E' b I (fp' id) w') ∧
      ((∃ b0, H id = some b0) ∧ id < nx ∨ ∃ t bp, s.n ≤ t ∧ id = nx + (t - s.n) ∧ fHeap L' m.leaves noHeap s.post t = some bp) := by
    intro id b hb
    rcases hcase hb with ⟨hi, hb0, hu⟩ | ⟨t, bp, p, hp, hfb, hHp, ht, hv, hr⟩ | ⟨t, lo, n, g, kd, xs, g', ys, hHp, ht, hv, hb0, rfl⟩ | ⟨t, bp, p, hp, hfb, hHp, ht, rfl, hr⟩
    · obtain ⟨I, hI, ok⟩ := hs.blk id b hb0
      refine ⟨⟨I, by rw [hold hi]; exact hI, ?_⟩, Or.inl ⟨⟨b, hb0⟩, hi⟩⟩
      rw [hfro hi]
      exact (ok.frm hfrm fun x hx => hkeep hb0 hu hx).mono hle
    · obtain ⟨⟨b0, hb0⟩, _⟩ := hview ht ⟨_, hv, rfl⟩
      have hi := hlt hb0
      obtain ⟨I1, g1, ok1⟩ := hsim.blk t bp hHp
      refine ⟨⟨I1, ?_, ?_⟩, Or.inl ⟨⟨b0, hb0⟩, hi⟩⟩
      · rw [hold hi]
        rw [hI1 ht hHp, baseE_info hv] at g1
        exact g1
      · have hfe : fp' id = fp1 t := by
          rw [hfro hi]
          funext x
          refine propext (Iff.trans ?_ (F4 ht hHp x).symm)
          simp [baseFp, hv, viewFp]
        rw [hfe]
        exact renBlk_ok hρ hro (hplain hp) hfb hr ok1
    · have hi := hlt hb0
      obtain ⟨I, hI, ok⟩ := hs.blk id _ hb0
      obtain ⟨I1, g1, ok1⟩ := hsim.blk t _ hHp
      rw [hI1 ht hHp, baseE_info hv] at g1
      simp only [viewInfo, hI, Option.map_some, Option.some.injEq] at g1
      subst g1
      refine ⟨⟨I, by rw [hold hi]; exact hI, ?_⟩, Or.inl ⟨⟨_, hb0⟩, hi⟩⟩
      rw [hfro hi]
      refine (part_ok hfrm ok ok1 (hparts _ _ _ _ _ _ _ hv hb0) fun x hx ho => ?_).mono hle
      obtain ⟨t0, v0, ht0, hv0, hid0, hx0⟩ := F2 hb0 hx ho
      have : t0 = t := hinj t0 t id (hview ht0 ⟨_, hv0, hid0⟩).2 (hview ht ⟨_, hv, rfl⟩).2
      subst this
      simp only [baseFp, hv, viewFp, hI, Option.some.injEq, exists_eq_left'] at hx0
      obtain ⟨h1, h2, h3⟩ := hx0
      simp only [Bool.false_eq_true, if_false, Nat.mul_one] at h2 h3
      exact ⟨h2, h3⟩
    · obtain ⟨I1, g1, ok1⟩ := hsim.blk t bp hHp
      refine ⟨⟨I1, by rw [hnew ht (idsLive_mem hp (fBlk_live.2 ⟨bp, hfb⟩))]; exact g1, ?_⟩, Or.inr ⟨t, bp, ht, rfl, hHp⟩⟩
      rw [hfrn ht]
      exact renBlk_ok hρ hro (hplain hp) hfb hr ok1
  have hown' : ∀ {id b x}, postBlks (noLent m.lent) (renId m.σ (idsLive s.post) s.n nx) m.σ s.n nx L' m.leaves s.post H id = some b → fp' id x →
      (∃ b0, H id = some b0 ∧ fp id x ∧ id < nx) ∨ ∃ t bp, s.n ≤ t ∧ id = nx + (t - s.n) ∧ fHeap L' m.leaves noHeap s.post t = some bp ∧ fp1 t x := by
    intro id b x hb hx
    rcases (hblk hb).2 with ⟨⟨b0, hb0⟩, hi⟩ | ⟨t, bp, ht, rfl, hHp⟩
    · rw [hfro hi] at hx; exact Or.inl ⟨b0, hb0, hx, hi⟩
    · rw [hfrn ht] at hx; exact Or.inr ⟨t, bp, ht, rfl, hHp, hx⟩
  have hsep : ∀ {id b b0 x t bp}, postBlks (noLent m.lent) (renId m.σ (idsLive s.post) s.n nx) m.σ s.n nx L' m.leaves s.post H id = some b → H id = some b0 → fp id x →
      s.n ≤ t → fHeap L' m.leaves noHeap s.post t = some bp → ¬ fp1 t x := by
    intro id b b0 x t bp hb hb0 hx ht hHp hx1
    have ho := F3 hHp hx1 (hs.cell_lt hb0 hx)
    obtain ⟨t0, v0, ht0, hv0, hid0, hx0⟩ := F2 hb0 hx ho
    have hi := hlt hb0
    have touched : ∀ {t1 b1 v1}, t1 < s.n → m.σ[t1]? = some v1 → viewId v1 = some id → fHeap L' m.leaves noHeap s.post t1 = some b1 → False := by
      intro t1 b1 v1 h1 h2 h3 h4
      have he : t0 = t1 := hinj t0 t1 id (hview ht0 ⟨_, hv0, hid0⟩).2 (hview h1 ⟨_, h2, h3⟩).2
      subst he
      exact hsim.disj t0 t _ _ x h4 hHp (by omega) ((F4 h1 h4 x).2 hx0) hx1
    rcases hcase hb with ⟨_, hb0', hu⟩ | ⟨t1, bp1, p, hp, hfb, hHp1, ht1, hv, hr⟩ | ⟨t1, lo, n, g, kd, xs, g', ys, hHp1, ht1, hv, hb0', rfl⟩ | ⟨t1, bp1, p, hp, hfb, hHp1, ht1, rfl, hr⟩
    · exact hkeep hb0' hu hx ho
    · exact touched ht1 hv rfl hHp1
    · exact touched ht1 hv rfl hHp1
    · omega
  have hdis : ∀ i j b c x, postBlks (noLent m.lent) (renId m.σ (idsLive s.post) s.n nx) m.σ s.n nx L' m.leaves s.post H i = some b →
      postBlks (noLent m.lent) (renId m.σ (idsLive s.post) s.n nx) m.σ s.n nx L' m.leaves s.post H j = some c → i ≠ j → fp' i x → ¬ fp' j x := by
    intro i j b c x hb hc hij hx hy
    rcases hown' hb hx with ⟨b0, g1, g2, g3⟩ | ⟨t, bp, g1, rfl, g2, g3⟩ <;> rcases hown' hc hy with ⟨c0, l1, l2, l3⟩ | ⟨t', cp, l1, rfl, l2, l3⟩
    · exact hs.disj _ _ _ _ x g1 l1 hij g2 l2
    · exact hsep hb g1 g2 l1 l2 l3
    · exact hsep hc l1 l2 g1 g2 g3
    · exact hsim.disj t t' _ _ x g2 l2 (by omega) g3 l3
  have hro' : ∀ ad v, E'.M ad = some v → ad.spot = none ∧ w'.cell? ad = some v ∧ ∀ i b, postBlks (noLent m.lent) (renId m.σ (idsLive s.post) s.n nx) m.σ s.n nx L' m.leaves s.post H i = some b → ¬ fp' i (ad.block, ad.off) := by
    intro ad v hm
    simp only [E'] at hm
    split at hm
    · rename_i hl
      obtain ⟨h1, h2, h3⟩ := hsim.ro ad v hm
      refine ⟨h1, h2, fun i b hb hx => ?_⟩
      rcases hown' hb hx with ⟨b0, g1, g2, _⟩ | ⟨t, bp, g1, rfl, g2, g3⟩
      · rcases hext ad v hm with hx' | hx' | ho
        · exact (hs.ro ad v (hbM hl ad v hx')).2.2 i b0 g1 g2
        · have := hs.cell_lt g1 g2
          simp only at this
          omega
        · obtain ⟨t0, v0, ht0, hv0, hid0, hx0⟩ := F2 g1 g2 ho
          have touched : ∀ {t1 b1 v1}, t1 < s.n → m.σ[t1]? = some v1 → viewId v1 = some i → fHeap L' m.leaves noHeap s.post t1 = some b1 → False := by
            intro t1 b1 v1 k1 k2 k3 k4
            have he : t0 = t1 := hinj t0 t1 i (hview ht0 ⟨_, hv0, hid0⟩).2 (hview k1 ⟨_, k2, k3⟩).2
            subst he
            exact h3 t0 _ k4 ((F4 k1 k4 _).2 hx0)
          rcases hcase hb with ⟨_, hb0', hu⟩ | ⟨t1, bp1, p, hp, hfb, hHp1, ht1, hv, hr⟩ | ⟨t1, lo, n, g, kd, xs, g', ys, hHp1, ht1, hv, hb0', rfl⟩ | ⟨t1, bp1, p, hp, hfb, hHp1, ht1, rfl, hr⟩
          · exact hkeep hb0' hu g2 ho
          · exact touched ht1 hv rfl hHp1
          · exact touched ht1 hv rfl hHp1
          · have := hlt g1; omega
      · exact h3 t _ g2 g3
    · obtain ⟨h1, h2, h3⟩ := hs.ro ad v hm
      have hno : ¬ OwnAll (fHeap m.leaves m.leaves noHeap s.pre) (baseFp E fp m.σ) (ad.block, ad.off) := by
        intro ho
        obtain ⟨t, v, id, b, _, _, _, g3, g4, _⟩ := F1 ho
        exact h3 id b g3 g4
      refine ⟨h1, hfrm.cell h2 hno, fun i b hb hx => ?_⟩
      rcases hown' hb hx with ⟨b0, g1, g2, _⟩ | ⟨t, bp, g1, rfl, g2, g3⟩
      · exact h3 i b0 g1 g2
      · refine hno (F3 g2 g3 ?_)
        unfold World.cell? at h2
        split at h2
        · rename_i h; exact heap_lt h
        · simp at h2
  refine ⟨u, E', postBlks (noLent m.lent) (renId m.σ (idsLive s.post) s.n nx) m.σ s.n nx L' m.leaves s.post H, fp', _, _, he, h5, ren_RV hρ hro q4 hret, ?_, ?_⟩
  · exact ⟨fun id b hb => (hblk hb).1, hdis, hro'⟩
  · refine ⟨hle, hfrm.mono fun x hx => ?_, fun x hx hl => ?_, by omega, fun id hid => ?_, ?_⟩
    · obtain ⟨t, v, id, b, _, _, _, g3, g4, _⟩ := F1 hx
      exact ⟨id, b, g3, g4⟩
    · obtain ⟨id, b, hb, hx'⟩ := hx
      rcases hown' hb hx' with ⟨b0, g1, g2, _⟩ | ⟨t, bp, _, _, g1, g2⟩
      · exact ⟨id, b0, g1, g2⟩
      · obtain ⟨t, v, id, b, _, _, _, g3, g4, _⟩ := F1 (F3 g1 g2 hl)
        exact ⟨id, b, g3, g4⟩
    · simp only [E']
      rw [if_neg (by omega)]
      split
      · rename_i h
        obtain ⟨p, hp, _⟩ := idsLive_get h
        have := below_mem q9 hp
        omega
      · rfl
    · intro ad v hm
      simp only [E'] at hm
      split at hm
      · rename_i hl
        rcases hext ad v hm with h | h | ho
        · exact Or.inl (hbM hl ad v h)
        · exact Or.inr (Or.inl h)
        · obtain ⟨t, v, id, b, _, _, _, g3, g4, _⟩ := F1 ho
          exact Or.inr (Or.inr ⟨id, b, g3, g4⟩)
      · exact Or.inl hm

end Go.Eng
