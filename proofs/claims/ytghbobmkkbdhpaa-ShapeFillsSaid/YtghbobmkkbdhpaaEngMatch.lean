/-
  The engine, part five: what it says that a state meets a shape.
  Conditions: none; nothing is claimed of the program here.
-/
import Derived.Test.YtghbobmkkbdhpaaEngMem
set_option linter.unusedSimpArgs false
set_option linter.unusedVariables false
namespace Go.Eng
variable {RT : RoTab} {E : Env} {F : Fr} {a : Act} {H : Heap} {fp : Fp} {w : World} {P : Program} {Y : Type} {y : Y}

/-- A later match knows what an earlier one knew. -/
structure Ext (m m' : MS) : Prop where
  σlen : m'.σ.length = m.σ.length
  σ : ∀ (t : Nat) (v : View), m.σ[t]? = some v → v ≠ .none → m'.σ[t]? = some v
  is : ∀ (h : Nat) (x : Int), m.is[h]? = some x → m'.is[h]? = some x
  bs : ∀ (h : Nat) (x : Bool), m.bs[h]? = some x → m'.bs[h]? = some x
  ls : ∀ (h : Nat) (x : List Int), m.ls[h]? = some x → m'.ls[h]? = some x
  rs : ∀ (h : Nat) (x : List (List Int)), m.rs[h]? = some x → m'.rs[h]? = some x
  fis : ∀ (h : Nat) (x : Int), m.fis[h]? = some x → m'.fis[h]? = some x
  fbs : ∀ (h : Nat) (x : Bool), m.fbs[h]? = some x → m'.fbs[h]? = some x
  fls : ∀ (h : Nat) (x : List Int), m.fls[h]? = some x → m'.fls[h]? = some x
  frs : ∀ (h : Nat) (x : List (List Int)), m.frs[h]? = some x → m'.frs[h]? = some x
  lent : ∀ id, id ∈ m.lent → id ∈ m'.lent

theorem Ext.refl (m : MS) : Ext m m := ⟨rfl, fun _ _ h _ => h, fun _ _ h => h, fun _ _ h => h, fun _ _ h => h, fun _ _ h => h, fun _ _ h => h, fun _ _ h => h, fun _ _ h => h, fun _ _ h => h, fun _ h => h⟩
theorem Ext.trans {a b c : MS} (h : Ext a b) (k : Ext b c) : Ext a c :=
  ⟨k.σlen.trans h.σlen, fun t v hv hn => k.σ t v (h.σ t v hv hn) hn, fun i x hx => k.is i x (h.is i x hx), fun i x hx => k.bs i x (h.bs i x hx), fun i x hx => k.ls i x (h.ls i x hx), fun i x hx => k.rs i x (h.rs i x hx),
    fun i x hx => k.fis i x (h.fis i x hx), fun i x hx => k.fbs i x (h.fbs i x hx), fun i x hx => k.fls i x (h.fls i x hx), fun i x hx => k.frs i x (h.frs i x hx), fun id hid => k.lent id (h.lent id hid)⟩

theorem snoc_get {α : Type} (l : List α) (z : α) : (snoc l z)[l.length]? = some z := by rw [snoc_eq]; simp
theorem snoc_keep {α : Type} (l : List α) (z : α) (h : Nat) (x : α) (hx : l[h]? = some x) : (snoc l z)[h]? = some x := by
  rw [snoc_eq]
  have hlt : h < l.length := by
    rcases Nat.lt_or_ge h l.length with h' | h'
    · exact h'
    · rw [List.getElem?_eq_none h'] at hx; simp at hx
  rw [List.getElem?_append_left hlt]
  exact hx

theorem nthD_of {α : Type} {d : α} {l : List α} {h : Nat} {x : α} (hx : l[h]? = some x) : nthD d l h = x := by
  rw [nthD_eq, List.getD_eq_getElem?_getD, hx]
  rfl

def lcOf (Lc : Option Leaves) (m : MS) : Leaves := match Lc with | none => m.fixed | some L => L

theorem pushI_sound {m : MS} {h : Nat} {n : Int} {k : MS → Option Y} (hk : pushI m h n k = some y) :
    ∃ m', k m' = some y ∧ Ext m m' ∧ ∀ mf, Ext m' mf → mf.leaves.i h = n := by
  unfold pushI at hk
  rw [gate_some] at hk
  obtain ⟨hh, hk⟩ := hk
  obtain rfl := Nat.eq_of_beq_eq_true hh
  rw [len_eq] at *
  refine ⟨_, hk, { Ext.refl m with is := snoc_keep m.is n }, fun mf hf => nthD_of (hf.is _ _ (snoc_get m.is n))⟩
theorem pushB_sound {m : MS} {h : Nat} {n : Bool} {k : MS → Option Y} (hk : pushB m h n k = some y) :
    ∃ m', k m' = some y ∧ Ext m m' ∧ ∀ mf, Ext m' mf → mf.leaves.b h = n := by
  unfold pushB at hk
  rw [gate_some] at hk
  obtain ⟨hh, hk⟩ := hk
  obtain rfl := Nat.eq_of_beq_eq_true hh
  rw [len_eq] at *
  refine ⟨_, hk, { Ext.refl m with bs := snoc_keep m.bs n }, fun mf hf => nthD_of (hf.bs _ _ (snoc_get m.bs n))⟩
theorem pushL_sound {m : MS} {h : Nat} {n : List Int} {k : MS → Option Y} (hk : pushL m h n k = some y) :
    ∃ m', k m' = some y ∧ Ext m m' ∧ ∀ mf, Ext m' mf → mf.leaves.l h = n := by
  unfold pushL at hk
  rw [gate_some] at hk
  obtain ⟨hh, hk⟩ := hk
  obtain rfl := Nat.eq_of_beq_eq_true hh
  rw [len_eq] at *
  refine ⟨_, hk, { Ext.refl m with ls := snoc_keep m.ls n }, fun mf hf => nthD_of (hf.ls _ _ (snoc_get m.ls n))⟩
theorem pushR_sound {m : MS} {h : Nat} {n : List (List Int)} {k : MS → Option Y} (hk : pushR m h n k = some y) :
    ∃ m', k m' = some y ∧ Ext m m' ∧ ∀ mf, Ext m' mf → mf.leaves.r h = n := by
  unfold pushR at hk
  rw [gate_some] at hk
  obtain ⟨hh, hk⟩ := hk
  obtain rfl := Nat.eq_of_beq_eq_true hh
  rw [len_eq] at *
  refine ⟨_, hk, { Ext.refl m with rs := snoc_keep m.rs n }, fun mf hf => nthD_of (hf.rs _ _ (snoc_get m.rs n))⟩

theorem fixI_sound {Lc : Option Leaves} {m : MS} {h : Nat} {n : Int} {k : MS → Option Y} (hk : fixI Lc m h n k = some y) :
    ∃ m', k m' = some y ∧ Ext m m' ∧ ∀ mf, Ext m' mf → (lcOf Lc mf).i h = n := by
  unfold fixI at hk
  split at hk
  · rw [gate_some] at hk
    obtain ⟨hh, hk⟩ := hk
    obtain rfl := Nat.eq_of_beq_eq_true hh
    rw [len_eq] at *
    exact ⟨_, hk, { Ext.refl m with fis := snoc_keep m.fis n }, fun mf hf => nthD_of (hf.fis _ _ (snoc_get m.fis n))⟩
  · rw [chkI_some] at hk
    exact ⟨m, hk.2, .refl m, fun _ _ => hk.1.symm⟩
theorem fixB_sound {Lc : Option Leaves} {m : MS} {h : Nat} {n : Bool} {k : MS → Option Y} (hk : fixB Lc m h n k = some y) :
    ∃ m', k m' = some y ∧ Ext m m' ∧ ∀ mf, Ext m' mf → (lcOf Lc mf).b h = n := by
  unfold fixB at hk
  split at hk
  · rw [gate_some] at hk
    obtain ⟨hh, hk⟩ := hk
    obtain rfl := Nat.eq_of_beq_eq_true hh
    rw [len_eq] at *
    exact ⟨_, hk, { Ext.refl m with fbs := snoc_keep m.fbs n }, fun mf hf => nthD_of (hf.fbs _ _ (snoc_get m.fbs n))⟩
  · rw [chkB_some] at hk
    exact ⟨m, hk.2, .refl m, fun _ _ => hk.1.symm⟩
theorem fixL_sound {Lc : Option Leaves} {m : MS} {h : Nat} {n : List Int} {k : MS → Option Y} (hk : fixL Lc m h n k = some y) :
    ∃ m', k m' = some y ∧ Ext m m' ∧ ∀ mf, Ext m' mf → (lcOf Lc mf).l h = n := by
  unfold fixL at hk
  split at hk
  · rw [gate_some] at hk
    obtain ⟨hh, hk⟩ := hk
    obtain rfl := Nat.eq_of_beq_eq_true hh
    rw [len_eq] at *
    exact ⟨_, hk, { Ext.refl m with fls := snoc_keep m.fls n }, fun mf hf => nthD_of (hf.fls _ _ (snoc_get m.fls n))⟩
  · rw [chkL_some] at hk
    exact ⟨m, hk.2, .refl m, fun _ _ => hk.1.symm⟩
theorem fixR_sound {Lc : Option Leaves} {m : MS} {h : Nat} {n : List (List Int)} {k : MS → Option Y} (hk : fixR Lc m h n k = some y) :
    ∃ m', k m' = some y ∧ Ext m m' ∧ ∀ mf, Ext m' mf → (lcOf Lc mf).r h = n := by
  unfold fixR at hk
  split at hk
  · rw [gate_some] at hk
    obtain ⟨hh, hk⟩ := hk
    obtain rfl := Nat.eq_of_beq_eq_true hh
    rw [len_eq] at *
    exact ⟨_, hk, { Ext.refl m with frs := snoc_keep m.frs n }, fun mf hf => nthD_of (hf.frs _ _ (snoc_get m.frs n))⟩
  · rw [chkR_some] at hk
    exact ⟨m, hk.2, .refl m, fun _ _ => hk.1.symm⟩

theorem fixN_sound {Lc : Option Leaves} {m : MS} {h : Nat} {n : Nat} {k : MS → Option Y} (hk : fixN Lc m h n k = some y) :
    ∃ m', k m' = some y ∧ Ext m m' ∧ ∀ mf, Ext m' mf → ((lcOf Lc mf).i h).toNat = n := by
  unfold fixN at hk
  split at hk
  · rw [gate_some] at hk
    obtain ⟨hh, hk⟩ := hk
    obtain rfl := Nat.eq_of_beq_eq_true hh
    rw [len_eq] at *
    refine ⟨_, hk, { Ext.refl m with fis := snoc_keep m.fis (n : Int) }, fun mf hf => ?_⟩
    have : (lcOf none mf).i m.fis.length = (n : Int) := nthD_of (hf.fis _ _ (snoc_get m.fis (n : Int)))
    rw [this, Int.toNat_natCast]
  · rw [chkN_some] at hk
    exact ⟨m, hk.2, .refl m, fun _ _ => hk.1.symm⟩

theorem bindView_sound {m : MS} {t : Nat} {v : View} {k : MS → Option Y} (hv : v ≠ .none) (hk : bindView m t v k = some y) :
    ∃ m', k m' = some y ∧ Ext m m' ∧ ∀ mf, Ext m' mf → mf.σ[t]? = some v := by
  unfold bindView at hk
  split at hk
  · rename_i hn
    rw [nth_eq] at hn
    have hlt : t < m.σ.length := by
      rcases Nat.lt_or_ge t m.σ.length with h' | h'
      · exact h'
      · rw [List.getElem?_eq_none h'] at hn; simp at hn
    refine ⟨_, hk, { Ext.refl m with σlen := by simp [setNth_eq], σ := fun t' v' h' hn' => ?_ }, fun mf hf => hf.σ t v (by simp [setNth_eq, hlt]) hv⟩
    simp only [setNth_eq]
    have : t ≠ t' := fun he => by subst he; rw [hn] at h'; exact hn' (Option.some.inj h').symm
    rw [List.getElem?_set_ne this]
    exact h'
  · rename_i id hn
    rw [nth_eq] at hn
    split at hk
    · rw [gate_some] at hk
      obtain ⟨hh, hk⟩ := hk
      obtain rfl := Nat.eq_of_beq_eq_true hh
      exact ⟨m, hk, .refl m, fun mf hf => hf.σ _ _ hn (by simp)⟩
    · simp at hk
  · simp at hk

/-- What a slice of whole numbers holds, as the evaluator has it. -/
def RoA (H : Heap) (kd : IntKind) (x : Atom) (xs : List Int) (l : Option Nat) : Prop := roA H kd x (fun xs l => some (xs, l)) = some (xs, l)

theorem roA_bind {kd : IntKind} {x : Atom} {k : List Int → Option Nat → Option Y} (hk : roA H kd x k = some y) : ∃ xs l, RoA H kd x xs l ∧ k xs l = some y := by
  unfold roA at hk
  split at hk
  · rw [gate_some] at hk; exact ⟨_, _, by simp [RoA, roA, hk.1, gate], hk.2⟩
  · exact ⟨_, _, rfl, hk⟩
  · split at hk
    · rename_i h; rw [gate_some] at hk; exact ⟨_, _, by simp [RoA, roA, h, hk.1, gate], hk.2⟩
    · simp at hk
  · split at hk
    · rename_i h; rw [gate_some] at hk; exact ⟨_, _, by simp [RoA, roA, h, hk.1, gate], hk.2⟩
    · simp at hk
  · simp at hk

/-- An atom is what a shape says, with these leaves and views. -/
def MatchA (H : Heap) (L Lc : Leaves) (σ : List View) (lent : List Nat) (p : Pat) (x : Atom) : Prop :=
  match p with
  | .unk => True
  | .bool h => x = .bool (L.b h)
  | .int k h => x = .int k (L.i h)
  | .fbool h => x = .bool (Lc.b h)
  | .fint k h => x = .int k (Lc.i h)
  | .nilp => x = .nilp
  | .nils => x = .nils
  | .ptr t off => ∃ id, x = .ptr id off ∧ σ[t]? = some (.whole id)
  | .full t nn => (∃ id nn', x = .full id nn' ∧ (nn = true → nn' = true) ∧ σ[t]? = some (.whole id)) ∨
      (nn = false ∧ ∃ id lo n, x = .sub id lo n ∧ σ[t]? = some (.part id lo n)) ∨ (nn = false ∧ x = .nils ∧ σ[t]? = some .empty)
  | .roi k h => ∃ l, RoA H k x (L.l h) l ∧ ∀ id, l = some id → id ∈ lent
  | .froi k h => ∃ l, RoA H k x (Lc.l h) l ∧ ∀ id, l = some id → id ∈ lent
  | .ror tag => x = .ror tag
  | .fn f => x = .fn (.func f) []
  | .ifp ty t off => ∃ id, x = .iface ty false [.ptr id off] ∧ σ[t]? = some (.whole id)
  | .fsub t h1 h2 => ∃ id, x = .sub id (Lc.i h1).toNat (Lc.i h2).toNat ∧ σ[t]? = some (.whole id)
  | .clo f ts => ∃ cs, x = .fn (.func f) cs ∧ All2 (fun (q : Nat × Nat) c => ∃ id, c = .ptr id q.2 ∧ σ[q.1]? = some (.whole id)) ts cs

theorem mClo_sound : ∀ {ts : List (Nat × Nat)} {cs : List Atom} {m : MS} {k : MS → Option Y}, mClo ts cs m k = some y →
    ∃ m', k m' = some y ∧ Ext m m' ∧ ∀ mf, Ext m' mf → All2 (fun (q : Nat × Nat) c => ∃ id, c = .ptr id q.2 ∧ mf.σ[q.1]? = some (.whole id)) ts cs
  | [], [], m, k, hk => ⟨m, hk, .refl m, fun _ _ => .nil⟩
  | (t, off) :: ts, c :: cs, m, k, hk => by
    cases c with
    | ptr id off' =>
      simp only [mClo] at hk
      rw [gate_some] at hk
      obtain ⟨hh, hk⟩ := hk
      obtain rfl := Nat.eq_of_beq_eq_true hh
      obtain ⟨m1, h1, h2, h3⟩ := bindView_sound (by simp) hk
      obtain ⟨m2, g1, g2, g3⟩ := mClo_sound h1
      exact ⟨m2, g1, h2.trans g2, fun mf hf => .cons ⟨id, rfl, h3 mf (g2.trans hf)⟩ (g3 mf hf)⟩
    | _ => simp [mClo] at hk
  | [], _ :: _, _, _, hk => by simp [mClo] at hk
  | _ :: _, [], _, _, hk => by simp [mClo] at hk

theorem lend_ext (m : MS) (l : Option Nat) : Ext m (lend m l) ∧ ∀ id, l = some id → id ∈ (lend m l).lent := by
  cases l with
  | none => exact ⟨.refl m, fun _ h => by simp at h⟩
  | some id => exact ⟨{ Ext.refl m with lent := fun i hi => by simp [lend, hi] }, fun i hi => by simp at hi; subst hi; simp [lend]⟩

theorem mAtom_sound {Lc : Option Leaves} {p : Pat} {x : Atom} {m : MS} {k : MS → Option Y} (hk : mAtom H Lc p x m k = some y) :
    ∃ m', k m' = some y ∧ Ext m m' ∧ ∀ mf, Ext m' mf → MatchA H mf.leaves (lcOf Lc mf) mf.σ mf.lent p x := by
  unfold mAtom at hk
  split at hk
  · exact ⟨m, hk, .refl m, fun _ _ => trivial⟩
  · obtain ⟨m', h1, h2, h3⟩ := pushB_sound hk
    exact ⟨m', h1, h2, fun mf hf => by rw [MatchA, h3 mf hf]⟩
  · rw [gate_some, eqK_iff] at hk
    obtain ⟨rfl, hk⟩ := hk
    obtain ⟨m', h1, h2, h3⟩ := pushI_sound hk
    exact ⟨m', h1, h2, fun mf hf => by rw [MatchA, h3 mf hf]⟩
  · obtain ⟨m', h1, h2, h3⟩ := fixB_sound hk
    exact ⟨m', h1, h2, fun mf hf => by rw [MatchA, h3 mf hf]⟩
  · rw [gate_some, eqK_iff] at hk
    obtain ⟨rfl, hk⟩ := hk
    obtain ⟨m', h1, h2, h3⟩ := fixI_sound hk
    exact ⟨m', h1, h2, fun mf hf => by rw [MatchA, h3 mf hf]⟩
  · exact ⟨m, hk, .refl m, fun _ _ => rfl⟩
  · rw [gate_some] at hk
    obtain ⟨hh, hk⟩ := hk
    obtain rfl := Nat.eq_of_beq_eq_true hh
    obtain ⟨m', h1, h2, h3⟩ := bindView_sound (by simp) hk
    exact ⟨m', h1, h2, fun mf hf => ⟨_, rfl, h3 mf hf⟩⟩
  · rename_i t nn id nn'
    rw [gate_some] at hk
    obtain ⟨hh, hk⟩ := hk
    obtain ⟨m', h1, h2, h3⟩ := bindView_sound (by simp) hk
    refine ⟨m', h1, h2, fun mf hf => Or.inl ⟨_, _, rfl, fun hn => ?_, h3 mf hf⟩⟩
    simp [hn] at hh
    exact hh
  · rw [gate_some] at hk
    obtain ⟨hh, hk⟩ := hk
    obtain ⟨m', h1, h2, h3⟩ := bindView_sound (by simp) hk
    exact ⟨m', h1, h2, fun mf hf => Or.inr (Or.inl ⟨by simpa using hh, _, _, _, rfl, h3 mf hf⟩)⟩
  · rw [gate_some] at hk
    obtain ⟨hh, hk⟩ := hk
    obtain ⟨m', h1, h2, h3⟩ := bindView_sound (by simp) hk
    exact ⟨m', h1, h2, fun mf hf => Or.inr (Or.inr ⟨by simpa using hh, rfl, h3 mf hf⟩)⟩
  · obtain ⟨xs, l, hr, hk⟩ := roA_bind hk
    obtain ⟨m', h1, h2, h3⟩ := pushL_sound hk
    obtain ⟨g1, g2⟩ := lend_ext m l
    exact ⟨m', h1, g1.trans h2, fun mf hf => ⟨l, by rw [h3 mf hf]; exact hr, fun id hid => hf.lent id (h2.lent id (g2 id hid))⟩⟩
  · obtain ⟨xs, l, hr, hk⟩ := roA_bind hk
    obtain ⟨m', h1, h2, h3⟩ := fixL_sound hk
    obtain ⟨g1, g2⟩ := lend_ext m l
    exact ⟨m', h1, g1.trans h2, fun mf hf => ⟨l, by rw [h3 mf hf]; exact hr, fun id hid => hf.lent id (h2.lent id (g2 id hid))⟩⟩
  · rw [gate_some] at hk
    obtain ⟨hh, hk⟩ := hk
    obtain rfl := Nat.eq_of_beq_eq_true hh
    exact ⟨m, hk, .refl m, fun _ _ => rfl⟩
  · rw [gate_some] at hk
    obtain ⟨hh, hk⟩ := hk
    obtain rfl := Nat.eq_of_beq_eq_true hh
    exact ⟨m, hk, .refl m, fun _ _ => rfl⟩
  · rw [gate_some] at hk
    obtain ⟨hh, hk⟩ := hk
    simp only [Bool.and_eq_true] at hh
    obtain ⟨h1, h2⟩ := hh
    obtain rfl := Nat.eq_of_beq_eq_true h1
    obtain rfl := Nat.eq_of_beq_eq_true h2
    obtain ⟨m', h1, h2, h3⟩ := bindView_sound (by simp) hk
    exact ⟨m', h1, h2, fun mf hf => ⟨_, rfl, h3 mf hf⟩⟩
  · obtain ⟨m1, h1, h2, h3⟩ := fixN_sound hk
    obtain ⟨m2, g1, g2, g3⟩ := fixN_sound h1
    obtain ⟨m', k1, k2, k3⟩ := bindView_sound (by simp) g1
    exact ⟨m', k1, h2.trans (g2.trans k2), fun mf hf => ⟨_, by rw [h3 mf (g2.trans (k2.trans hf)), g3 mf (k2.trans hf)], k3 mf hf⟩⟩
  · rw [gate_some] at hk
    obtain ⟨hh, hk⟩ := hk
    obtain rfl := Nat.eq_of_beq_eq_true hh
    obtain ⟨m', h1, h2, h3⟩ := mClo_sound hk
    exact ⟨m', h1, h2, fun mf hf => ⟨_, rfl, h3 mf hf⟩⟩
  · exact ⟨m, hk, .refl m, fun _ _ => rfl⟩
  · simp at hk

abbrev MatchAs (H : Heap) (L Lc : Leaves) (σ : List View) (lent : List Nat) : List Pat → List Atom → Prop := All2 (MatchA H L Lc σ lent)

theorem mAtoms_sound {Lc : Option Leaves} : ∀ {ps : List Pat} {as : List Atom} {m : MS} {k : MS → Option Y}, mAtoms H Lc ps as m k = some y →
    ∃ m', k m' = some y ∧ Ext m m' ∧ ∀ mf, Ext m' mf → MatchAs H mf.leaves (lcOf Lc mf) mf.σ mf.lent ps as
  | [], [], m, k, hk => ⟨m, hk, .refl m, fun _ _ => .nil⟩
  | p :: ps, x :: as, m, k, hk => by
    simp only [mAtoms] at hk
    obtain ⟨m1, h1, h2, h3⟩ := mAtom_sound hk
    obtain ⟨m2, g1, g2, g3⟩ := mAtoms_sound h1
    exact ⟨m2, g1, h2.trans g2, fun mf hf => .cons (h3 mf (g2.trans hf)) (g3 mf hf)⟩
  | [], _ :: _, _, _, hk => by simp [mAtoms] at hk
  | _ :: _, [], _, _, hk => by simp [mAtoms] at hk

abbrev MatchT (H : Heap) (L Lc : Leaves) (σ : List View) (lent : List Nat) : List (Bool × List Pat) → List (Bool × List Atom) → Prop :=
  All2 fun p x => p.1 = x.1 ∧ MatchAs H L Lc σ lent p.2 x.2

theorem mTup_sound {Lc : Option Leaves} : ∀ {ps : List (Bool × List Pat)} {as : List (Bool × List Atom)} {m : MS} {k : MS → Option Y}, mTup H Lc ps as m k = some y →
    ∃ m', k m' = some y ∧ Ext m m' ∧ ∀ mf, Ext m' mf → MatchT H mf.leaves (lcOf Lc mf) mf.σ mf.lent ps as
  | [], [], m, k, hk => ⟨m, hk, .refl m, fun _ _ => .nil⟩
  | (g, ps) :: r, (g', as) :: s, m, k, hk => by
    simp only [mTup] at hk
    rw [gate_some] at hk
    obtain ⟨hg, hk⟩ := hk
    have hgg : g = g' := by cases g <;> cases g' <;> simp [eqB] at hg <;> rfl
    obtain ⟨m1, h1, h2, h3⟩ := mAtoms_sound hk
    obtain ⟨m2, g1, g2, g3⟩ := mTup_sound h1
    exact ⟨m2, g1, h2.trans g2, fun mf hf => .cons ⟨hgg, h3 mf (g2.trans hf)⟩ (g3 mf hf)⟩
  | [], _ :: _, _, _, hk => by simp [mTup] at hk
  | _ :: _, [], _, _, hk => by simp [mTup] at hk

def MatchV (H : Heap) (L Lc : Leaves) (σ : List View) (lent : List Nat) (p : VPat) (x : AV) : Prop :=
  match p with
  | .at .unk => True
  | .at p => ∃ b, x = .at b ∧ MatchA H L Lc σ lent p b
  | .agg ps => ∃ as, x = .agg as ∧ MatchAs H L Lc σ lent ps as
  | .tup ps => ∃ as, x = .tup as ∧ MatchT H L Lc σ lent ps as

theorem mAV_sound {Lc : Option Leaves} {p : VPat} {x : AV} {m : MS} {k : MS → Option Y} (hk : mAV H Lc p x m k = some y) :
    ∃ m', k m' = some y ∧ Ext m m' ∧ ∀ mf, Ext m' mf → MatchV H mf.leaves (lcOf Lc mf) mf.σ mf.lent p x := by
  unfold mAV at hk
  split at hk
  · exact ⟨m, hk, .refl m, fun _ _ => trivial⟩
  · rename_i p b hne
    obtain ⟨m', h1, h2, h3⟩ := mAtom_sound hk
    refine ⟨m', h1, h2, fun mf hf => ?_⟩
    have := h3 mf hf
    cases p <;> first | exact absurd rfl (hne _) | exact ⟨b, rfl, this⟩ | trivial
  · obtain ⟨m', h1, h2, h3⟩ := mAtoms_sound hk
    exact ⟨m', h1, h2, fun mf hf => ⟨_, rfl, h3 mf hf⟩⟩
  · obtain ⟨m', h1, h2, h3⟩ := mTup_sound hk
    exact ⟨m', h1, h2, fun mf hf => ⟨_, rfl, h3 mf hf⟩⟩
  · simp at hk

theorem mAVs_sound {Lc : Option Leaves} : ∀ {ps : List VPat} {as : List AV} {m : MS} {k : MS → Option Y}, mAVs H Lc ps as m k = some y →
    ∃ m', k m' = some y ∧ Ext m m' ∧ ∀ mf, Ext m' mf → All2 (MatchV H mf.leaves (lcOf Lc mf) mf.σ mf.lent) ps as
  | [], [], m, k, hk => ⟨m, hk, .refl m, fun _ _ => .nil⟩
  | p :: ps, x :: as, m, k, hk => by
    simp only [mAVs] at hk
    obtain ⟨m1, h1, h2, h3⟩ := mAV_sound hk
    obtain ⟨m2, g1, g2, g3⟩ := mAVs_sound h1
    exact ⟨m2, g1, h2.trans g2, fun mf hf => .cons (h3 mf (g2.trans hf)) (g3 mf hf)⟩
  | [], _ :: _, _, _, hk => by simp [mAVs] at hk
  | _ :: _, [], _, _, hk => by simp [mAVs] at hk

theorem mSlots_sound {Lc : Option Leaves} : ∀ {ps : List (Nat × VPat)} {m : MS} {k : MS → Option Y}, mSlots H Lc F ps m k = some y →
    ∃ m', k m' = some y ∧ Ext m m' ∧ ∀ mf, Ext m' mf → ∀ q ∈ ps, MatchV H mf.leaves (lcOf Lc mf) mf.σ mf.lent q.2 (F q.1)
  | [], m, k, hk => ⟨m, hk, .refl m, fun _ _ q hq => by simp at hq⟩
  | (t, p) :: ps, m, k, hk => by
    simp only [mSlots] at hk
    obtain ⟨m1, h1, h2, h3⟩ := mAV_sound hk
    obtain ⟨m2, g1, g2, g3⟩ := mSlots_sound h1
    refine ⟨m2, g1, h2.trans g2, fun mf hf q hq => ?_⟩
    rcases List.mem_cons.1 hq with rfl | hq
    · exact h3 mf (g2.trans hf)
    · exact g3 mf hf q hq

/-- A block is what a shape says. -/
def MatchB (H : Heap) (L Lc : Leaves) (σ : List View) (lent : List Nat) (p : BPat) (v : View) : Prop :=
  match p, v with
  | .cells wd ps, .whole id => ∃ cs, H id = some (.cells wd cs) ∧ MatchAs H L Lc σ lent ps cs
  | .ints g kd h, .whole id => ∃ g', H id = some (.ints g' kd (L.l h)) ∧ (g = true → g' = true)
  | .fints g kd h, .whole id => ∃ g', H id = some (.ints g' kd (Lc.l h)) ∧ (g = true → g' = true)
  | .ints g kd h, .part id lo n => g = false ∧ ∃ g' xs, H id = some (.ints g' kd xs) ∧ L.l h = (xs.drop lo).take n
  | .fints g kd h, .part id lo n => g = false ∧ ∃ g' xs, H id = some (.ints g' kd xs) ∧ Lc.l h = (xs.drop lo).take n
  | .ints _ _ h, .empty => L.l h = []
  | .fints _ _ h, .empty => Lc.l h = []
  | .recs g T h, .whole id => (∃ g', H id = some (.recs g' T (L.r h)) ∧ (g = true → g' = true)) ∨
      (g = false ∧ ∃ kd xss i b gb ys, T = ⟨[], some kd⟩ ∧ H id = some (.hole kd xss i b) ∧ H b = some (.ints gb kd ys) ∧ b ∈ lent ∧ L.r h = xss.set i ys)
  | .frecs g T h, .whole id => ∃ g', H id = some (.recs g' T (Lc.r h)) ∧ (g = true → g' = true)
  | .fhole kd h hi t, .whole id => ∃ b, H id = some (.hole kd (Lc.r h) (Lc.i hi).toNat b) ∧ σ[t]? = some (.whole b)
  | _, _ => False

theorem mBlk_sound {Lc : Option Leaves} {p : BPat} {v : View} {m : MS} {k : MS → Option Y} (hk : mBlk H Lc p v m k = some y) :
    ∃ m', k m' = some y ∧ Ext m m' ∧ ∀ mf, Ext m' mf → MatchB H mf.leaves (lcOf Lc mf) mf.σ mf.lent p v := by
  unfold mBlk at hk
  split at hk
  · split at hk
    · rename_i hb
      rw [gate_some] at hk
      obtain ⟨hh, hk⟩ := hk
      obtain rfl := Nat.eq_of_beq_eq_true hh
      obtain ⟨m', h1, h2, h3⟩ := mAtoms_sound hk
      exact ⟨m', h1, h2, fun mf hf => ⟨_, hb, h3 mf hf⟩⟩
    · simp at hk
  · rename_i g kd h id
    split at hk
    · rename_i g' kd' xs hb
      rw [gate_some] at hk
      obtain ⟨hh, hk⟩ := hk
      simp only [Bool.and_eq_true, eqK_iff] at hh
      obtain ⟨hg, rfl⟩ := hh
      obtain ⟨m', h1, h2, h3⟩ := pushL_sound hk
      exact ⟨m', h1, h2, fun mf hf => ⟨g', by rw [h3 mf hf]; exact hb, fun hg' => by simpa [hg'] using hg⟩⟩
    · simp at hk
  · rename_i g kd h id
    split at hk
    · rename_i g' kd' xs hb
      rw [gate_some] at hk
      obtain ⟨hh, hk⟩ := hk
      simp only [Bool.and_eq_true, eqK_iff] at hh
      obtain ⟨hg, rfl⟩ := hh
      obtain ⟨m', h1, h2, h3⟩ := fixL_sound hk
      exact ⟨m', h1, h2, fun mf hf => ⟨g', by rw [h3 mf hf]; exact hb, fun hg' => by simpa [hg'] using hg⟩⟩
    · simp at hk
  · split at hk
    · rename_i hb
      rw [gate_some, eqK_iff] at hk
      obtain ⟨rfl, hk⟩ := hk
      obtain ⟨m', h1, h2, h3⟩ := pushL_sound hk
      exact ⟨m', h1, h2, fun mf hf => ⟨rfl, _, _, hb, h3 mf hf⟩⟩
    · simp at hk
  · split at hk
    · rename_i hb
      rw [gate_some, eqK_iff] at hk
      obtain ⟨rfl, hk⟩ := hk
      obtain ⟨m', h1, h2, h3⟩ := fixL_sound hk
      exact ⟨m', h1, h2, fun mf hf => ⟨rfl, _, _, hb, h3 mf hf⟩⟩
    · simp at hk
  · obtain ⟨m', h1, h2, h3⟩ := pushL_sound hk
    exact ⟨m', h1, h2, fun mf hf => h3 mf hf⟩
  · obtain ⟨m', h1, h2, h3⟩ := fixL_sound hk
    exact ⟨m', h1, h2, fun mf hf => h3 mf hf⟩
  · rename_i g T h id
    split at hk
    · rename_i g' T' xss hb
      rw [gate_some] at hk
      obtain ⟨hh, hk⟩ := hk
      simp only [Bool.and_eq_true, eqT_iff] at hh
      obtain ⟨hg, rfl⟩ := hh
      obtain ⟨m', h1, h2, h3⟩ := pushR_sound hk
      exact ⟨m', h1, h2, fun mf hf => Or.inl ⟨g', by rw [h3 mf hf]; exact hb, fun hg' => by simpa [hg'] using hg⟩⟩
    · rename_i kd xss i b hb
      split at hk
      · rename_i gb kd' ys hbb
        rw [gate_some] at hk
        obtain ⟨hh, hk⟩ := hk
        simp only [Bool.and_eq_true, eqT_iff, eqK_iff, Bool.not_eq_true'] at hh
        obtain ⟨⟨hg, hT⟩, rfl⟩ := hh
        obtain ⟨m', h1, h2, h3⟩ := pushR_sound hk
        obtain ⟨g1, g2⟩ := lend_ext m (some b)
        exact ⟨m', h1, g1.trans h2, fun mf hf => Or.inr ⟨hg, kd, xss, i, b, gb, ys, hT, hb, hbb, hf.lent b (h2.lent b (g2 b rfl)), h3 mf hf⟩⟩
      · simp at hk
    · simp at hk
  · rename_i g T h id
    split at hk
    · rename_i g' T' xss hb
      rw [gate_some] at hk
      obtain ⟨hh, hk⟩ := hk
      simp only [Bool.and_eq_true, eqT_iff] at hh
      obtain ⟨hg, rfl⟩ := hh
      obtain ⟨m', h1, h2, h3⟩ := fixR_sound hk
      exact ⟨m', h1, h2, fun mf hf => ⟨g', by rw [h3 mf hf]; exact hb, fun hg' => by simpa [hg'] using hg⟩⟩
    · simp at hk
  · rename_i kd h hi t id
    split at hk
    · rename_i kd' xss i b hb
      rw [gate_some, eqK_iff] at hk
      obtain ⟨rfl, hk⟩ := hk
      obtain ⟨m1, h1, h2, h3⟩ := fixR_sound hk
      obtain ⟨m2, g1, g2, g3⟩ := fixN_sound h1
      obtain ⟨m', k1, k2, k3⟩ := bindView_sound (by simp) g1
      refine ⟨m', k1, h2.trans (g2.trans k2), fun mf hf => ⟨b, ?_, k3 mf hf⟩⟩
      rw [h3 mf (g2.trans (k2.trans hf)), g3 mf (k2.trans hf)]
      exact hb
    · simp at hk
  · simp at hk

theorem mBlks_sound {Lc : Option Leaves} : ∀ {ps : List (Nat × BPat)} {m : MS} {k : MS → Option Y}, mBlks H Lc ps m k = some y →
    ∃ m', k m' = some y ∧ Ext m m' ∧ ∀ mf, Ext m' mf → ∀ q ∈ ps, q.2 = .dead ∨ ∃ v, mf.σ[q.1]? = some v ∧ MatchB H mf.leaves (lcOf Lc mf) mf.σ mf.lent q.2 v
  | [], m, k, hk => ⟨m, hk, .refl m, fun _ _ q hq => by simp at hq⟩
  | (t, p) :: ps, m, k, hk => by
    simp only [mBlks] at hk
    split at hk
    · obtain ⟨m2, g1, g2, g3⟩ := mBlks_sound hk
      refine ⟨m2, g1, g2, fun mf hf q hq => ?_⟩
      rcases List.mem_cons.1 hq with rfl | hq
      · exact Or.inl rfl
      · exact g3 mf hf q hq
    · split at hk
      · rename_i v hv
        rw [nth_eq] at hv
        obtain ⟨m1, h1, h2, h3⟩ := mBlk_sound hk
        obtain ⟨m2, g1, g2, g3⟩ := mBlks_sound h1
        refine ⟨m2, g1, h2.trans g2, fun mf hf q hq => ?_⟩
        rcases List.mem_cons.1 hq with rfl | hq
        · have hm := h3 mf (g2.trans hf)
          refine Or.inr ⟨v, (h2.trans (g2.trans hf)).σ t v hv (fun hn => ?_), hm⟩
          subst hn
          unfold MatchB at hm
          split at hm <;> simp_all
        · exact g3 mf hf q hq
      · simp at hk

end Go.Eng
