/-
  The engine, part twelve (b): a region in whatever order.
  Conditions: none; nothing is claimed of the program here.
-/
import Derived.Test.YtghbobmkkbdhpaaEngCps
set_option linter.unusedSimpArgs false
set_option linter.unusedVariables false
namespace Go.Eng
variable {RT : RoTab} {E : Env} {F : Fr} {a : Act} {H : Heap} {fp : Fp} {w : World} {P : Program} {Y : Type} {y : Y} {C : Cfg} {K : FCfg} {ops : Array Oper}

/-! ### What the static checks say -/
theorem binds_eq (e : Edge) : Region.binds .any e = bindsAny e.ground := by
  unfold Region.binds bindsAny
  cases e.ground <;> rfl

theorem bit_eq (n i : Nat) : bit n i = Nat.testBit n i := by
  have h : bit n i = Nat.beq ((n >>> i) &&& 1) 1 := rfl
  rw [h]
  unfold Nat.testBit
  rw [Nat.and_comm 1, Nat.and_one_is_mod]
  rcases Nat.mod_two_eq_zero_or_one (n >>> i) with h | h <;> rw [h] <;> rfl

theorem edgesOf_bit {acc : List Nat} {m : Nat} : ∀ {l : List Edge}, bit (edgesOf acc l) m = true → ∃ e ∈ l, bindsAny e.ground = true ∧ (e.on = m ∨ bit (nthD 0 acc e.on) m = true)
  | [], h => by simp [edgesOf, bit_eq] at h
  | e :: r, h => by
    simp only [edgesOf] at h
    split at h
    · rename_i hb
      rw [bit_eq] at h
      simp only [Nat.lor_eq, Nat.testBit_or, Bool.or_eq_true] at h
      rcases h with (h | h) | h
      · exact ⟨e, by simp, hb, Or.inr (by rw [bit_eq]; exact h)⟩
      · refine ⟨e, by simp, hb, Or.inl ?_⟩
        have h' : Nat.testBit (1 <<< e.on) m = true := h
        rw [Nat.shiftLeft_eq, Nat.one_mul, Nat.testBit_two_pow] at h'
        simpa using h'
      · obtain ⟨e', he', h'⟩ := edgesOf_bit (l := r) (by rw [bit_eq]; exact h)
        exact ⟨e', by simp [he'], h'⟩
    · obtain ⟨e', he', h'⟩ := edgesOf_bit (l := r) h
      exact ⟨e', by simp [he'], h'⟩

/-- Each row of ancestors is made of its edges and the rows ahead of it. -/
theorem ancsOf_get : ∀ {os : List Oper} {acc : List Nat}, (ancsOf acc os).take acc.length = acc ∧ (ancsOf acc os).length = acc.length + os.length ∧
    ∀ j o, os[j]? = some o → (ancsOf acc os)[acc.length + j]? = some (edgesOf ((ancsOf acc os).take (acc.length + j)) o.after.toList)
  | [], acc => ⟨by simp [ancsOf], by simp [ancsOf], fun j o h => by simp at h⟩
  | o :: os, acc => by
    obtain ⟨h1, h2, h3⟩ := ancsOf_get (os := os) (acc := snoc acc (edgesOf acc o.after.toList))
    simp only [ancsOf]
    rw [snoc_eq] at h1 h2 h3 ⊢
    simp only [List.length_append, List.length_singleton] at h1 h2 h3
    have hacc : (ancsOf (acc ++ [edgesOf acc o.after.toList]) os).take acc.length = acc := by
      have := congrArg (List.take acc.length) h1
      rw [List.take_take, Nat.min_eq_left (by omega)] at this
      simpa using this
    refine ⟨hacc, by simp only [List.length_cons]; omega, fun j o' hj => ?_⟩
    cases j with
    | zero =>
      simp at hj
      subst hj
      have hh : (ancsOf (acc ++ [edgesOf acc o.after.toList]) os)[acc.length]? = some (edgesOf acc o.after.toList) := by
        have := congrArg (fun l => l[acc.length]?) h1
        simp only [List.getElem?_take, if_pos (Nat.lt_succ_self acc.length)] at this
        rw [this]; simp
      rw [Nat.add_zero, hh, hacc]
    | succ j =>
      have := h3 j o' (by simpa using hj)
      rw [show acc.length + 1 + j = acc.length + (j + 1) by omega] at this
      exact this

theorem nthD_take {l : List Nat} {n i : Nat} (h : i < n) : nthD 0 (l.take n) i = nthD 0 l i := by
  rw [nthD_eq, nthD_eq, List.getD_eq_getElem?_getD, List.getD_eq_getElem?_getD, List.getElem?_take_of_lt h]

theorem backEdges_get : ∀ {os : List Oper} {i j : Nat} {o : Oper} {e : Edge}, backEdges i os = true → os[j]? = some o → e ∈ o.after → bindsAny e.ground = true → e.on < i + j
  | [], i, j, o, e, _, h, _, _ => by simp at h
  | o' :: os, i, 0, o, e, h, hj, he, hb => by
    simp at hj
    subst hj
    simp only [backEdges, Bool.and_eq_true] at h
    have key : ∀ l : List Edge, backEdges.go i l = true → e ∈ l → e.on < i := by
      intro l
      induction l with
      | nil => intro _ h; simp at h
      | cons e' r ih =>
        intro h hm
        simp only [backEdges.go, Bool.and_eq_true, Bool.or_eq_true, Bool.not_eq_true'] at h
        rcases List.mem_cons.1 hm with rfl | hm
        · rcases h.1 with h' | h'
          · rw [hb] at h'; simp at h'
          · exact blt_iff.1 h'
        · exact ih h.2 hm
    have := key _ h.1 (by simpa using he)
    omega
  | o' :: os, i, j + 1, o, e, h, hj, he, hb => by
    simp only [backEdges, Bool.and_eq_true] at h
    have := backEdges_get (os := os) h.2 (by simpa using hj) he hb
    omega

theorem rowOk_get {all : List Oper} {anc : Nat} {b : Oper} : ∀ {l : List Oper} {i j : Nat} {o : Oper}, rowOk all anc b i l = true → l[j]? = some o → pairOk all (bit anc (i + j)) o b = true
  | [], i, j, o, _, h => by simp at h
  | o' :: l, i, 0, o, h, hj => by
    simp at hj
    subst hj
    simp only [rowOk, Bool.and_eq_true] at h
    exact h.1
  | o' :: l, i, j + 1, o, h, hj => by
    simp only [rowOk, Bool.and_eq_true] at h
    have := rowOk_get h.2 (by simpa using hj : l[j]? = some o)
    rwa [show i + 1 + j = i + (j + 1) by omega] at this

theorem pairsOk_get {all : List Oper} : ∀ {os : List Oper} {ancs : List Nat} {done : List Oper}, pairsOk all ancs done os = true → ancs.length = os.length →
    ∀ (m i : Nat) (b x : Oper) (anc : Nat), os[m]? = some b → ancs[m]? = some anc → (done ++ os)[i]? = some x → i < done.length + m → pairOk all (bit anc i) x b = true
  | [], _, _, _, _, m, i, b, x, anc, h, _, _, _ => by simp at h
  | o :: os, [], _, _, hl, _, _, _, _, _, _, _, _, _ => by simp at hl
  | o :: os, anc0 :: ancs, done, h, hl, m, i, b, x, anc, hb, ha, hx, hi => by
    simp only [pairsOk, Bool.and_eq_true] at h
    cases m with
    | zero =>
      simp at hb ha
      subst hb
      subst ha
      rw [List.getElem?_append_left (by omega)] at hx
      have := rowOk_get h.1 hx
      rwa [Nat.zero_add] at this
    | succ m =>
      have h2 := h.2
      rw [snoc_eq] at h2
      refine pairsOk_get h2 (by simpa using hl) m i b x anc (by simpa using hb) (by simpa using ha) (by simpa using hx) ?_
      simp only [List.length_append, List.length_singleton]
      omega

theorem chainRow_get {anc : Nat} : ∀ {l : List Oper} {i j : Nat} {o : Oper}, chainRow K anc i l = true → l[j]? = some o → isC K o = true → bit anc (i + j) = true
  | [], i, j, o, _, h, _ => by simp at h
  | o' :: l, i, 0, o, h, hj, hc => by
    simp at hj
    subst hj
    simp only [chainRow, Bool.and_eq_true, Bool.or_eq_true, Bool.not_eq_true'] at h
    exact h.1.resolve_left (by rw [hc]; simp)
  | o' :: l, i, j + 1, o, h, hj, hc => by
    simp only [chainRow, Bool.and_eq_true] at h
    have := chainRow_get h.2 (by simpa using hj : l[j]? = some o) hc
    rwa [show i + 1 + j = i + (j + 1) by omega] at this

theorem chainOk_get : ∀ {os : List Oper} {ancs : List Nat} {done : List Oper}, chainOk K ancs done os = true → ancs.length = os.length →
    ∀ (m i : Nat) (b x : Oper) (anc : Nat), os[m]? = some b → ancs[m]? = some anc → (done ++ os)[i]? = some x → i < done.length + m → isC K b = true → isC K x = true → bit anc i = true
  | [], _, _, _, _, m, i, b, x, anc, h, _, _, _, _, _ => by simp at h
  | o :: os, [], _, _, hl, _, _, _, _, _, _, _, _, _, _, _ => by simp at hl
  | o :: os, anc0 :: ancs, done, h, hl, m, i, b, x, anc, hb, ha, hx, hi, hcb, hcx => by
    simp only [chainOk, Bool.and_eq_true, Bool.or_eq_true, Bool.not_eq_true'] at h
    cases m with
    | zero =>
      simp at hb ha
      subst hb
      subst ha
      rw [List.getElem?_append_left (by omega)] at hx
      have := chainRow_get (h.1.resolve_left (by rw [hcb]; simp)) hx hcx
      rwa [Nat.zero_add] at this
    | succ m =>
      have h2 := h.2
      rw [snoc_eq] at h2
      refine chainOk_get h2 (by simpa using hl) m i b x anc (by simpa using hb) (by simpa using ha) (by simpa using hx) ?_ hcb hcx
      simp only [List.length_append, List.length_singleton]
      omega

theorem fits_of {ancs : List Nat} {i : Nat} : ∀ {chs : List Nat} {τ : Nat}, (∀ t c, chs[t]? = some c → (t < τ → bit (nthD 0 ancs c) i = false) ∧ (τ ≤ t → bit (nthD 0 ancs i) c = false)) → fits ancs i τ chs = true
  | [], τ, _ => by cases τ <;> rfl
  | c :: cs, 0, h => by
    simp only [fits, Bool.and_eq_true, Bool.not_eq_true']
    exact ⟨(h 0 c rfl).2 (Nat.le_refl _), fits_of fun t c' hc => ⟨fun h => by omega, fun _ => (h (t + 1) c' (by simpa using hc)).2 (by omega)⟩⟩
  | c :: cs, τ + 1, h => by
    simp only [fits, Bool.and_eq_true, Bool.not_eq_true']
    exact ⟨(h 0 c rfl).1 (by omega), fits_of fun t c' hc => ⟨fun ht => (h (t + 1) c' (by simpa using hc)).1 (by omega), fun ht => (h (t + 1) c' (by simpa using hc)).2 (by omega)⟩⟩

theorem eqB_eq {a b : Bool} (h : eqB a b = true) : a = b := by cases a <;> cases b <;> simp [eqB] at h ⊢

theorem beq_eq' {a b : Nat} (h : Nat.beq a b = true) : a = b := Nat.eq_of_beq_eq_true h

theorem eqAtom_eq {x z : Atom} {k : Option Y} (h : eqAtom x z k = some y) : x = z ∧ k = some y := by
  unfold eqAtom at h
  split at h
  · rw [gate_some, chkI_some, eqK_iff] at h; obtain ⟨rfl, rfl, h⟩ := h; exact ⟨rfl, h⟩
  · rw [chkB_some] at h; obtain ⟨rfl, h⟩ := h; exact ⟨rfl, h⟩
  · exact ⟨rfl, h⟩
  · exact ⟨rfl, h⟩
  · rw [gate_some, chkN_some] at h; obtain ⟨h1, rfl, h⟩ := h; rw [beq_eq' h1]; exact ⟨rfl, h⟩
  · rw [gate_some, chkN_some] at h; obtain ⟨h1, rfl, h⟩ := h; simp only [Bool.and_eq_true] at h1; rw [beq_eq' h1.1, beq_eq' h1.2]; exact ⟨rfl, h⟩
  · rw [gate_some] at h; obtain ⟨h1, h⟩ := h; simp only [Bool.and_eq_true] at h1; rw [beq_eq' h1.1, eqB_eq h1.2]; exact ⟨rfl, h⟩
  · rw [gate_some, chkN_some, chkN_some] at h; obtain ⟨h1, rfl, rfl, h⟩ := h; rw [beq_eq' h1]; exact ⟨rfl, h⟩
  · rw [gate_some, chkL_some, eqK_iff] at h; obtain ⟨rfl, rfl, h⟩ := h; exact ⟨rfl, h⟩
  · rw [gate_some] at h; obtain ⟨h1, h⟩ := h; rw [beq_eq' h1]; exact ⟨rfl, h⟩
  · simp at h

theorem eqAtoms_eq : ∀ {xs zs : List Atom} {k : Option Y}, eqAtoms xs zs k = some y → xs = zs ∧ k = some y
  | [], [], k, h => ⟨rfl, h⟩
  | x :: xs, z :: zs, k, h => by
    simp only [eqAtoms] at h
    obtain ⟨rfl, h1⟩ := eqAtom_eq h
    obtain ⟨rfl, h2⟩ := eqAtoms_eq h1
    exact ⟨rfl, h2⟩
  | [], _ :: _, _, h => by simp [eqAtoms] at h
  | _ :: _, [], _, h => by simp [eqAtoms] at h

theorem eqAV_eq {x z : AV} {k : Option Y} (h : eqAV x z k = some y) : x = z ∧ k = some y := by
  unfold eqAV at h
  split at h
  · obtain ⟨rfl, h1⟩ := eqAtom_eq h; exact ⟨rfl, h1⟩
  · obtain ⟨rfl, h1⟩ := eqAtoms_eq h; exact ⟨rfl, h1⟩
  · simp at h

/-- What is checked of a reader. -/
theorem checkRd_get {ancs chs : List Nat} {rd : Rd} {k : Option Y} : ∀ {hs : List Heap} {τ : Nat}, checkRd C ancs chs rd τ hs k = some y →
    k = some y ∧ ∀ t H, hs[t]? = some H → fits ancs rd.i (τ + t) chs = true → τ + t ≠ rd.τ → evR C.P C.RT H rd.F rd.op some = some rd.v
  | [], τ, h => ⟨h, fun t H ht => by simp at ht⟩
  | H :: hs, τ, h => by
    have step : ∀ {k' : Option Y}, (k' = checkRd C ancs chs rd (τ + 1) hs k) → k' = some y → (fits ancs rd.i τ chs = true → τ ≠ rd.τ → evR C.P C.RT H rd.F rd.op some = some rd.v) →
        k = some y ∧ ∀ t H', (H :: hs)[t]? = some H' → fits ancs rd.i (τ + t) chs = true → τ + t ≠ rd.τ → evR C.P C.RT H' rd.F rd.op some = some rd.v := by
      rintro k' rfl hk' h0
      obtain ⟨h1, h2⟩ := checkRd_get hk'
      refine ⟨h1, fun t H' ht hf hne => ?_⟩
      cases t with
      | zero => simp at ht; subst ht; exact h0 hf hne
      | succ t =>
        refine h2 t H' (by simpa using ht) ?_ ?_
        · rwa [show τ + 1 + t = τ + (t + 1) by omega]
        · omega
    simp only [checkRd] at h
    split at h
    · obtain ⟨v, h1, h2⟩ := evR_cp Y _ y h
      obtain ⟨rfl, h3⟩ := eqAV_eq h2
      exact step rfl h3 fun _ _ => h1
    · rename_i hg
      refine step rfl h fun hf hne => ?_
      exfalso
      have : Nat.beq τ rd.τ = false := by
        cases hb : Nat.beq τ rd.τ with
        | false => rfl
        | true => exact absurd (beq_eq' hb) hne
      rw [hf, this] at hg
      simp at hg

theorem checkRds_get {ancs chs : List Nat} {hs : List Heap} {k : Option Y} : ∀ {rds : List Rd}, checkRds C ancs chs hs rds k = some y →
    k = some y ∧ ∀ rd ∈ rds, ∀ t H, hs[t]? = some H → fits ancs rd.i t chs = true → t ≠ rd.τ → evR C.P C.RT H rd.F rd.op some = some rd.v
  | [], h => ⟨h, fun rd hr => by simp at hr⟩
  | rd :: rds, h => by
    simp only [checkRds] at h
    obtain ⟨h1, h2⟩ := checkRd_get h
    obtain ⟨h3, h4⟩ := checkRds_get h1
    refine ⟨h3, fun rd' hr => ?_⟩
    rcases List.mem_cons.1 hr with rfl | hr
    · intro t H ht hf hne
      exact h2 t H ht (by rwa [Nat.zero_add]) (by rwa [Nat.zero_add])
    · exact h4 rd' hr

end Go.Eng
