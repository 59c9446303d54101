/-
  The engine, part five: what it says that a state meets a shape.
  Conditions: none; nothing is claimed of the program here.
-/
import Derived.Test.YtghbobmkkbdhpaaEngEvalToEngMem
import Derived.Orders
import Derived.Tactics
import Derived.LoopN
set_option linter.unusedVariables false
set_option linter.unusedSimpArgs false
namespace Go.Eng
variable {RT : RoTab} {E : Env} {F : Fr} {a : Act} {H : Heap} {fp : Fp} {w : World} {P : Program} {Y : Type} {y : Y}
structure Ext (m m' : MS) : Prop where
  σlen : m'.σ.length = m.σ.length
  σ : ∀ (t : Nat) (v : View), m.σ[t]? = some v → v ≠ .none → m'.σ[t]? = some v
  is : ∀ (h : Nat) (x : Int), m.is[h]? = some x → m'.is[h]? = some x
  bs : ∀ (h : Nat) (x : Bool), m.bs[h]? = some x → m'.bs[h]? = some x
  ls : ∀ (h : Nat) (x : List Int), m.ls[h]? = some x → m'.ls[h]? = some x
  rs : ∀ (h : Nat) (x : List (List Int)), m.rs[h]? = some x → m'.rs[h]? = some x
  fis : ∀ (h : Nat) (x : Int), m.fis[h]? = some x → m'.fis[h]? = some x
  fbs : ∀ (h : Nat) (x : Bool), m.fbs[h]? = some x → m'.fbs[h]? = some x
  fls : ∀ (h : Nat) (x : List Int), m.fls[h]? = some x → m'.fls[h]? = some x
  frs : ∀ (h : Nat) (x : List (List Int)), m.frs[h]? = some x → m'.frs[h]? = some x
  lent : ∀ id, id ∈ m.lent → id ∈ m'.lent
theorem Ext.refl (m : MS) : Ext m m := ⟨rfl, fun _ _ h _ => h, fun _ _ h => h, fun _ _ h => h, fun _ _ h => h, fun _ _ h => h, fun _ _ h => h, fun _ _ h => h, fun _ _ h => h, fun _ _ h => h, fun _ h => h⟩
theorem Ext.trans {a b c : MS} (h : Ext a b) (k : Ext b c) : Ext a c :=
  ⟨k.σlen.trans h.σlen, fun t v hv hn => k.σ t v (h.σ t v hv hn) hn, fun i x hx => k.is i x (h.is i x hx), fun i x hx => k.bs i x (h.bs i x hx), fun i x hx => k.ls i x (h.ls i x hx), fun i x hx => k.rs i x (h.rs i x hx),
    fun i x hx => k.fis i x (h.fis i x hx), fun i x hx => k.fbs i x (h.fbs i x hx), fun i x hx => k.fls i x (h.fls i x hx), fun i x hx => k.frs i x (h.frs i x hx), fun id hid => k.lent id (h.lent id hid)⟩
theorem snoc_get {α : Type} (l : List α) (z : α) : (snoc l z)[l.length]? = some z := by rw [snoc_eq]; simp
theorem snoc_keep {α : Type} (l : List α) (z : α) (h : Nat) (x : α) (hx : l[h]? = some x) : (snoc l z)[h]? = some x := by
  rw [snoc_eq]
  have hlt : h < l.length := by
    rcases Nat.lt_or_ge h l.length with h' | h'
    · exact h'
    · rw [List.getElem?_eq_none h'] at hx; simp at hx
  rw [List.getElem?_append_left hlt]
  exact hx
theorem nthD_of {α : Type} {d : α} {l : List α} {h : Nat} {x : α} (hx : l[h]? = some x) : nthD d l h = x := by
  rw [nthD_eq, List.getD_eq_getElem?_getD, hx]
  rfl
def lcOf (Lc : Option Leaves) (m : MS) : Leaves := match Lc with | none => m.fixed | some L => L
theorem pushI_sound {m : MS} {h : Nat} {n : Int} {k : MS → Option Y} (hk : pushI m h n k = some y) :
    ∃ m', k m' = some y ∧ Ext m m' ∧ ∀ mf, Ext m' mf → mf.leaves.i h = n := by
  unfold pushI at hk
  rw [gate_some] at hk
  obtain ⟨hh, hk⟩ := hk
  obtain rfl := Nat.eq_of_beq_eq_true hh
  rw [len_eq] at *
  refine ⟨_, hk, { Ext.refl m with is := snoc_keep m.is n }, fun mf hf => nthD_of (hf.is _ _ (snoc_get m.is n))⟩
theorem pushB_sound {m : MS} {h : Nat} {n : Bool} {k : MS → Option Y} (hk : pushB m h n k = some y) :
    ∃ m', k m' = some y ∧ Ext m m' ∧ ∀ mf, Ext m' mf → mf.leaves.b h = n := by
  unfold pushB at hk
  rw [gate_some] at hk
  obtain ⟨hh, hk⟩ := hk
  obtain rfl := Nat.eq_of_beq_eq_true hh
  rw [len_eq] at *
  refine ⟨_, hk, { Ext.refl m with bs := snoc_keep m.bs n }, fun mf hf => nthD_of (hf.bs _ _ (snoc_get m.bs n))⟩
theorem pushL_sound {m : MS} {h : Nat} {n : List Int} {k : MS → Option Y} (hk : pushL m h n k = some y) :
    ∃ m', k m' = some y ∧ Ext m m' ∧ ∀ mf, Ext m' mf → mf.leaves.l h = n := by
  unfold pushL at hk
  rw [gate_some] at hk
  obtain ⟨hh, hk⟩ := hk
  obtain rfl := Nat.eq_of_beq_eq_true hh
  rw [len_eq] at *
  refine ⟨_, hk, { Ext.refl m with ls := snoc_keep m.ls n }, fun mf hf => nthD_of (hf.ls _ _ (snoc_get m.ls n))⟩
theorem pushR_sound {m : MS} {h : Nat} {n : List (List Int)} {k : MS → Option Y} (hk : pushR m h n k = some y) :
    ∃ m', k m' = some y ∧ Ext m m' ∧ ∀ mf, Ext m' mf → mf.leaves.r h = n := by
  unfold pushR at hk
  rw [gate_some] at hk
  obtain ⟨hh, hk⟩ := hk
  obtain rfl := Nat.eq_of_beq_eq_true hh
  rw [len_eq] at *
  refine ⟨_, hk, { Ext.refl m with rs := snoc_keep m.rs n }, fun mf hf => nthD_of (hf.rs _ _ (snoc_get m.rs n))⟩
theorem fixI_sound {Lc : Option Leaves} {m : MS} {h : Nat} {n : Int} {k : MS → Option Y} (hk : fixI Lc m h n k = some y) :
    ∃ m', k m' = some y ∧ Ext m m' ∧ ∀ mf, Ext m' mf → (lcOf Lc mf).i h = n := by
  unfold fixI at hk
  split at hk
  · rw [gate_some] at hk
    obtain ⟨hh, hk⟩ := hk
    obtain rfl := Nat.eq_of_beq_eq_true hh
    rw [len_eq] at *
    exact ⟨_, hk, { Ext.refl m with fis := snoc_keep m.fis n }, fun mf hf => nthD_of (hf.fis _ _ (snoc_get m.fis n))⟩
  · rw [chkI_some] at hk
    exact ⟨m, hk.2, .refl m, fun _ _ => hk.1.symm⟩
theorem fixB_sound {Lc : Option Leaves} {m : MS} {h : Nat} {n : Bool} {k : MS → Option Y} (hk : fixB Lc m h n k = some y) :
    ∃ m', k m' = some y ∧ Ext m m' ∧ ∀ mf, Ext m' mf → (lcOf Lc mf).b h = n := by
  unfold fixB at hk
  split at hk
  · rw [gate_some] at hk
    obtain ⟨hh, hk⟩ := hk
    obtain rfl := Nat.eq_of_beq_eq_true hh
    rw [len_eq] at *
    exact ⟨_, hk, { Ext.refl m with fbs := snoc_keep m.fbs n }, fun mf hf => nthD_of (hf.fbs _ _ (snoc_get m.fbs n))⟩
  · rw [chkB_some] at hk
    exact ⟨m, hk.2, .refl m, fun _ _ => hk.1.symm⟩
theorem fixL_sound {Lc : Option Leaves} {m : MS} {h : Nat} {n : List Int} {k : MS → Option Y} (hk : fixL Lc m h n k = some y) :
    ∃ m', k m' = some y ∧ Ext m m' ∧ ∀ mf, Ext m' mf → (lcOf Lc mf).l h = n := by
  unfold fixL at hk
  split at hk
  · rw [gate_some] at hk
    obtain ⟨hh, hk⟩ := hk
    obtain rfl := Nat.eq_of_beq_eq_true hh
    rw [len_eq] at *
    exact ⟨_, hk, { Ext.refl m with fls := snoc_keep m.fls n }, fun mf hf => nthD_of (hf.fls _ _ (snoc_get m.fls n))⟩
  · rw [chkL_some] at hk
    exact ⟨m, hk.2, .refl m, fun _ _ => hk.1.symm⟩
theorem fixR_sound {Lc : Option Leaves} {m : MS} {h : Nat} {n : List (List Int)} {k : MS → Option Y} (hk : fixR Lc m h n k = some y) :
    ∃ m', k m' = some y ∧ Ext m m' ∧ ∀ mf, Ext m' mf → (lcOf Lc mf).r h = n := by
  unfold fixR at hk
  split at hk
  · rw [gate_some] at hk
    obtain ⟨hh, hk⟩ := hk
    obtain rfl := Nat.eq_of_beq_eq_true hh
    rw [len_eq] at *
    exact ⟨_, hk, { Ext.refl m with frs := snoc_keep m.frs n }, fun mf hf => nthD_of (hf.frs _ _ (snoc_get m.frs n))⟩
  · rw [chkR_some] at hk
    exact ⟨m, hk.2, .refl m, fun _ _ => hk.1.symm⟩
theorem fixN_sound {Lc : Option Leaves} {m : MS} {h : Nat} {n : Nat} {k : MS → Option Y} (hk : fixN Lc m h n k = some y) :
    ∃ m', k m' = some y ∧ Ext m m' ∧ ∀ mf, Ext m' mf → ((lcOf Lc mf).i h).toNat = n := by
  unfold fixN at hk
  split at hk
  · rw [gate_some] at hk
    obtain ⟨hh, hk⟩ := hk
    obtain rfl := Nat.eq_of_beq_eq_true hh
    rw [len_eq] at *
    refine ⟨_, hk, { Ext.refl m with fis := snoc_keep m.fis (n : Int) }, fun mf hf => ?_⟩
    have : (lcOf none mf).i m.fis.length = (n : Int) := nthD_of (hf.fis _ _ (snoc_get m.fis (n : Int)))
    rw [this, Int.toNat_natCast]
  · rw [chkN_some] at hk
    exact ⟨m, hk.2, .refl m, fun _ _ => hk.1.symm⟩
theorem bindView_sound {m : MS} {t : Nat} {v : View} {k : MS → Option Y} (hv : v ≠ .none) (hk : bindView m t v k = some y) :
    ∃ m', k m' = some y ∧ Ext m m' ∧ ∀ mf, Ext m' mf → mf.σ[t]? = some v := by
  unfold bindView at hk
  split at hk
  · rename_i hn
    rw [nth_eq] at hn
    have hlt : t < m.σ.length := by
      rcases Nat.lt_or_ge t m.σ.length with h' | h'
      · exact h'
      · rw [List.getElem?_eq_none h'] at hn; simp at hn
    refine ⟨_, hk, { Ext.refl m with σlen := by simp [setNth_eq], σ := fun t' v' h' hn' => ?_ }, fun mf hf => hf.σ t v (by simp [setNth_eq, hlt]) hv⟩
    simp only [setNth_eq]
    have : t ≠ t' := fun he => by subst he; rw [hn] at h'; exact hn' (Option.some.inj h').symm
    rw [List.getElem?_set_ne this]
    exact h'
  · rename_i id hn
    rw [nth_eq] at hn
    split at hk
    · rw [gate_some] at hk
      obtain ⟨hh, hk⟩ := hk
      obtain rfl := Nat.eq_of_beq_eq_true hh
      exact ⟨m, hk, .refl m, fun mf hf => hf.σ _ _ hn (by simp)⟩
    · simp at hk
  · simp at hk
def RoA (H : Heap) (kd : IntKind) (x : Atom) (xs : List Int) (l : Option Nat) : Prop := roA H kd x (fun xs l => some (xs, l)) = some (xs, l)
theorem roA_bind {kd : IntKind} {x : Atom} {k : List Int → Option Nat → Option Y} (hk : roA H kd x k = some y) : ∃ xs l, RoA H kd x xs l ∧ k xs l = some y := by
  unfold roA at hk
  split at hk
  · rw [gate_some] at hk; exact ⟨_, _, by simp [RoA, roA, hk.1, gate], hk.2⟩
  · exact ⟨_, _, rfl, hk⟩
  · split at hk
    · rename_i h; rw [gate_some] at hk; exact ⟨_, _, by simp [RoA, roA, h, hk.1, gate], hk.2⟩
    · simp at hk
  · split at hk
    · rename_i h; rw [gate_some] at hk; exact ⟨_, _, by simp [RoA, roA, h, hk.1, gate], hk.2⟩
    · simp at hk
  · simp at hk
def MatchA (H : Heap) (L Lc : Leaves) (σ : List View) (lent : List Nat) (p : Pat) (x : Atom) : Prop :=
  match p with
  | .unk => True
  | .bool h => x = .bool (L.b h)
  | .int k h => x = .int k (L.i h)
  | .fbool h => x = .bool (Lc.b h)
  | .fint k h => x = .int k (Lc.i h)
  | .nilp => x = .nilp
  | .nils => x = .nils
  | .ptr t off => ∃ id, x = .ptr id off ∧ σ[t]? = some (.whole id)
  | .full t nn => (∃ id nn', x = .full id nn' ∧ (nn = true → nn' = true) ∧ σ[t]? = some (.whole id)) ∨
      (nn = false ∧ ∃ id lo n, x = .sub id lo n ∧ σ[t]? = some (.part id lo n)) ∨ (nn = false ∧ x = .nils ∧ σ[t]? = some .empty)
  | .roi k h => ∃ l, RoA H k x (L.l h) l ∧ ∀ id, l = some id → id ∈ lent
  | .froi k h => ∃ l, RoA H k x (Lc.l h) l ∧ ∀ id, l = some id → id ∈ lent
  | .ror tag => x = .ror tag
  | .fn f => x = .fn (.func f) []
  | .ifp ty t off => ∃ id, x = .iface ty false [.ptr id off] ∧ σ[t]? = some (.whole id)
  | .fsub t h1 h2 => ∃ id, x = .sub id (Lc.i h1).toNat (Lc.i h2).toNat ∧ σ[t]? = some (.whole id)
  | .clo f ts => ∃ cs, x = .fn (.func f) cs ∧ All2 (fun (q : Nat × Nat) c => ∃ id, c = .ptr id q.2 ∧ σ[q.1]? = some (.whole id)) ts cs
theorem mClo_sound : ∀ {ts : List (Nat × Nat)} {cs : List Atom} {m : MS} {k : MS → Option Y}, mClo ts cs m k = some y →
    ∃ m', k m' = some y ∧ Ext m m' ∧ ∀ mf, Ext m' mf → All2 (fun (q : Nat × Nat) c => ∃ id, c = .ptr id q.2 ∧ mf.σ[q.1]? = some (.whole id)) ts cs
  | [], [], m, k, hk => ⟨m, hk, .refl m, fun _ _ => .nil⟩
  | (t, off) :: ts, c :: cs, m, k, hk => by
    cases c with
    | ptr id off' =>
      simp only [mClo] at hk
      rw [gate_some] at hk
      obtain ⟨hh, hk⟩ := hk
      obtain rfl := Nat.eq_of_beq_eq_true hh
      obtain ⟨m1, h1, h2, h3⟩ := bindView_sound (by simp) hk
      obtain ⟨m2, g1, g2, g3⟩ := mClo_sound h1
      exact ⟨m2, g1, h2.trans g2, fun mf hf => .cons ⟨id, rfl, h3 mf (g2.trans hf)⟩ (g3 mf hf)⟩
    | _ => simp [mClo] at hk
  | [], _ :: _, _, _, hk => by simp [mClo] at hk
  | _ :: _, [], _, _, hk => by simp [mClo] at hk
theorem lend_ext (m : MS) (l : Option Nat) : Ext m (lend m l) ∧ ∀ id, l = some id → id ∈ (lend m l).lent := by
  cases l with
  | none => exact ⟨.refl m, fun _ h => by simp at h⟩
  | some id => exact ⟨{ Ext.refl m with lent := fun i hi => by simp [lend, hi] }, fun i hi => by simp at hi; subst hi; simp [lend]⟩
theorem mAtom_sound {Lc : Option Leaves} {p : Pat} {x : Atom} {m : MS} {k : MS → Option Y} (hk : mAtom H Lc p x m k = some y) :
    ∃ m', k m' = some y ∧ Ext m m' ∧ ∀ mf, Ext m' mf → MatchA H mf.leaves (lcOf Lc mf) mf.σ mf.lent p x := by
  unfold mAtom at hk
  split at hk
  · exact ⟨m, hk, .refl m, fun _ _ => trivial⟩
  · obtain ⟨m', h1, h2, h3⟩ := pushB_sound hk
    exact ⟨m', h1, h2, fun mf hf => by rw [MatchA, h3 mf hf]⟩
  · rw [gate_some, eqK_iff] at hk
    obtain ⟨rfl, hk⟩ := hk
    obtain ⟨m', h1, h2, h3⟩ := pushI_sound hk
    exact ⟨m', h1, h2, fun mf hf => by rw [MatchA, h3 mf hf]⟩
  · obtain ⟨m', h1, h2, h3⟩ := fixB_sound hk
    exact ⟨m', h1, h2, fun mf hf => by rw [MatchA, h3 mf hf]⟩
  · rw [gate_some, eqK_iff] at hk
    obtain ⟨rfl, hk⟩ := hk
    obtain ⟨m', h1, h2, h3⟩ := fixI_sound hk
    exact ⟨m', h1, h2, fun mf hf => by rw [MatchA, h3 mf hf]⟩
  · exact ⟨m, hk, .refl m, fun _ _ => rfl⟩
  · rw [gate_some] at hk
    obtain ⟨hh, hk⟩ := hk
    obtain rfl := Nat.eq_of_beq_eq_true hh
    obtain ⟨m', h1, h2, h3⟩ := bindView_sound (by simp) hk
    exact ⟨m', h1, h2, fun mf hf => ⟨_, rfl, h3 mf hf⟩⟩
  · rename_i t nn id nn'
    rw [gate_some] at hk
    obtain ⟨hh, hk⟩ := hk
    obtain ⟨m', h1, h2, h3⟩ := bindView_sound (by simp) hk
    refine ⟨m', h1, h2, fun mf hf => Or.inl ⟨_, _, rfl, fun hn => ?_, h3 mf hf⟩⟩
    simp [hn] at hh
    exact hh
  · rw [gate_some] at hk
    obtain ⟨hh, hk⟩ := hk
    obtain ⟨m', h1, h2, h3⟩ := bindView_sound (by simp) hk
    exact ⟨m', h1, h2, fun mf hf => Or.inr (Or.inl ⟨by simpa using hh, _, _, _, rfl, h3 mf hf⟩)⟩
  · rw [gate_some] at hk
    obtain ⟨hh, hk⟩ := hk
    obtain ⟨m', h1, h2, h3⟩ := bindView_sound (by simp) hk
    exact ⟨m', h1, h2, fun mf hf => Or.inr (Or.inr ⟨by simpa using hh, rfl, h3 mf hf⟩)⟩
  · obtain ⟨xs, l, hr, hk⟩ := roA_bind hk
    obtain ⟨m', h1, h2, h3⟩ := pushL_sound hk
    obtain ⟨g1, g2⟩ := lend_ext m l
    exact ⟨m', h1, g1.trans h2, fun mf hf => ⟨l, by rw [h3 mf hf]; exact hr, fun id hid => hf.lent id (h2.lent id (g2 id hid))⟩⟩
  · obtain ⟨xs, l, hr, hk⟩ := roA_bind hk
    obtain ⟨m', h1, h2, h3⟩ := fixL_sound hk
    obtain ⟨g1, g2⟩ := lend_ext m l
    exact ⟨m', h1, g1.trans h2, fun mf hf => ⟨l, by rw [h3 mf hf]; exact hr, fun id hid => hf.lent id (h2.lent id (g2 id hid))⟩⟩
  · rw [gate_some] at hk
    obtain ⟨hh, hk⟩ := hk
    obtain rfl := Nat.eq_of_beq_eq_true hh
    exact ⟨m, hk, .refl m, fun _ _ => rfl⟩
  · rw [gate_some] at hk
    obtain ⟨hh, hk⟩ := hk
    obtain rfl := Nat.eq_of_beq_eq_true hh
    exact ⟨m, hk, .refl m, fun _ _ => rfl⟩
  · rw [gate_some] at hk
    obtain ⟨hh, hk⟩ := hk
    simp only [Bool.and_eq_true] at hh
    obtain ⟨h1, h2⟩ := hh
    obtain rfl := Nat.eq_of_beq_eq_true h1
    obtain rfl := Nat.eq_of_beq_eq_true h2
    obtain ⟨m', h1, h2, h3⟩ := bindView_sound (by simp) hk
    exact ⟨m', h1, h2, fun mf hf => ⟨_, rfl, h3 mf hf⟩⟩
  · obtain ⟨m1, h1, h2, h3⟩ := fixN_sound hk
    obtain ⟨m2, g1, g2, g3⟩ := fixN_sound h1
    obtain ⟨m', k1, k2, k3⟩ := bindView_sound (by simp) g1
    exact ⟨m', k1, h2.trans (g2.trans k2), fun mf hf => ⟨_, by rw [h3 mf (g2.trans (k2.trans hf)), g3 mf (k2.trans hf)], k3 mf hf⟩⟩
  · rw [gate_some] at hk
    obtain ⟨hh, hk⟩ := hk
    obtain rfl := Nat.eq_of_beq_eq_true hh
    obtain ⟨m', h1, h2, h3⟩ := mClo_sound hk
    exact ⟨m', h1, h2, fun mf hf => ⟨_, rfl, h3 mf hf⟩⟩
  · exact ⟨m, hk, .refl m, fun _ _ => rfl⟩
  · simp at hk
abbrev MatchAs (H : Heap) (L Lc : Leaves) (σ : List View) (lent : List Nat) : List Pat → List Atom → Prop := All2 (MatchA H L Lc σ lent)
theorem mAtoms_sound {Lc : Option Leaves} : ∀ {ps : List Pat} {as : List Atom} {m : MS} {k : MS → Option Y}, mAtoms H Lc ps as m k = some y →
    ∃ m', k m' = some y ∧ Ext m m' ∧ ∀ mf, Ext m' mf → MatchAs H mf.leaves (lcOf Lc mf) mf.σ mf.lent ps as
  | [], [], m, k, hk => ⟨m, hk, .refl m, fun _ _ => .nil⟩
  | p :: ps, x :: as, m, k, hk => by
    simp only [mAtoms] at hk
    obtain ⟨m1, h1, h2, h3⟩ := mAtom_sound hk
    obtain ⟨m2, g1, g2, g3⟩ := mAtoms_sound h1
    exact ⟨m2, g1, h2.trans g2, fun mf hf => .cons (h3 mf (g2.trans hf)) (g3 mf hf)⟩
  | [], _ :: _, _, _, hk => by simp [mAtoms] at hk
  | _ :: _, [], _, _, hk => by simp [mAtoms] at hk
abbrev MatchT (H : Heap) (L Lc : Leaves) (σ : List View) (lent : List Nat) : List (Bool × List Pat) → List (Bool × List Atom) → Prop :=
  All2 fun p x => p.1 = x.1 ∧ MatchAs H L Lc σ lent p.2 x.2
theorem mTup_sound {Lc : Option Leaves} : ∀ {ps : List (Bool × List Pat)} {as : List (Bool × List Atom)} {m : MS} {k : MS → Option Y}, mTup H Lc ps as m k = some y →
    ∃ m', k m' = some y ∧ Ext m m' ∧ ∀ mf, Ext m' mf → MatchT H mf.leaves (lcOf Lc mf) mf.σ mf.lent ps as
  | [], [], m, k, hk => ⟨m, hk, .refl m, fun _ _ => .nil⟩
  | (g, ps) :: r, (g', as) :: s, m, k, hk => by
    simp only [mTup] at hk
    rw [gate_some] at hk
    obtain ⟨hg, hk⟩ := hk
    have hgg : g = g' := by cases g <;> cases g' <;> simp [eqB] at hg <;> rfl
    obtain ⟨m1, h1, h2, h3⟩ := mAtoms_sound hk
    obtain ⟨m2, g1, g2, g3⟩ := mTup_sound h1
    exact ⟨m2, g1, h2.trans g2, fun mf hf => .cons ⟨hgg, h3 mf (g2.trans hf)⟩ (g3 mf hf)⟩
  | [], _ :: _, _, _, hk => by simp [mTup] at hk
  | _ :: _, [], _, _, hk => by simp [mTup] at hk
def MatchV (H : Heap) (L Lc : Leaves) (σ : List View) (lent : List Nat) (p : VPat) (x : AV) : Prop :=
  match p with
  | .at .unk => True
  | .at p => ∃ b, x = .at b ∧ MatchA H L Lc σ lent p b
  | .agg ps => ∃ as, x = .agg as ∧ MatchAs H L Lc σ lent ps as
  | .tup ps => ∃ as, x = .tup as ∧ MatchT H L Lc σ lent ps as
theorem mAV_sound {Lc : Option Leaves} {p : VPat} {x : AV} {m : MS} {k : MS → Option Y} (hk : mAV H Lc p x m k = some y) :
    ∃ m', k m' = some y ∧ Ext m m' ∧ ∀ mf, Ext m' mf → MatchV H mf.leaves (lcOf Lc mf) mf.σ mf.lent p x := by
  unfold mAV at hk
  split at hk
  · exact ⟨m, hk, .refl m, fun _ _ => trivial⟩
  · rename_i p b hne
    obtain ⟨m', h1, h2, h3⟩ := mAtom_sound hk
    refine ⟨m', h1, h2, fun mf hf => ?_⟩
    have := h3 mf hf
    cases p <;> first | exact absurd rfl (hne _) | exact ⟨b, rfl, this⟩ | trivial
  · obtain ⟨m', h1, h2, h3⟩ := mAtoms_sound hk
    exact ⟨m', h1, h2, fun mf hf => ⟨_, rfl, h3 mf hf⟩⟩
  · obtain ⟨m', h1, h2, h3⟩ := mTup_sound hk
    exact ⟨m', h1, h2, fun mf hf => ⟨_, rfl, h3 mf hf⟩⟩
  · simp at hk
theorem mAVs_sound {Lc : Option Leaves} : ∀ {ps : List VPat} {as : List AV} {m : MS} {k : MS → Option Y}, mAVs H Lc ps as m k = some y →
    ∃ m', k m' = some y ∧ Ext m m' ∧ ∀ mf, Ext m' mf → All2 (MatchV H mf.leaves (lcOf Lc mf) mf.σ mf.lent) ps as
  | [], [], m, k, hk => ⟨m, hk, .refl m, fun _ _ => .nil⟩
  | p :: ps, x :: as, m, k, hk => by
    simp only [mAVs] at hk
    obtain ⟨m1, h1, h2, h3⟩ := mAV_sound hk
    obtain ⟨m2, g1, g2, g3⟩ := mAVs_sound h1
    exact ⟨m2, g1, h2.trans g2, fun mf hf => .cons (h3 mf (g2.trans hf)) (g3 mf hf)⟩
  | [], _ :: _, _, _, hk => by simp [mAVs] at hk
  | _ :: _, [], _, _, hk => by simp [mAVs] at hk
theorem mSlots_sound {Lc : Option Leaves} : ∀ {ps : List (Nat × VPat)} {m : MS} {k : MS → Option Y}, mSlots H Lc F ps m k = some y →
    ∃ m', k m' = some y ∧ Ext m m' ∧ ∀ mf, Ext m' mf → ∀ q ∈ ps, MatchV H mf.leaves (lcOf Lc mf) mf.σ mf.lent q.2 (F q.1)
  | [], m, k, hk => ⟨m, hk, .refl m, fun _ _ q hq => by simp at hq⟩
  | (t, p) :: ps, m, k, hk => by
    simp only [mSlots] at hk
    obtain ⟨m1, h1, h2, h3⟩ := mAV_sound hk
    obtain ⟨m2, g1, g2, g3⟩ := mSlots_sound h1
    refine ⟨m2, g1, h2.trans g2, fun mf hf q hq => ?_⟩
    rcases List.mem_cons.1 hq with rfl | hq
    · exact h3 mf (g2.trans hf)
    · exact g3 mf hf q hq
def MatchB (H : Heap) (L Lc : Leaves) (σ : List View) (lent : List Nat) (p : BPat) (v : View) : Prop :=
  match p, v with
  | .cells wd ps, .whole id => ∃ cs, H id = some (.cells wd cs) ∧ MatchAs H L Lc σ lent ps cs
  | .ints g kd h, .whole id => ∃ g', H id = some (.ints g' kd (L.l h)) ∧ (g = true → g' = true)
  | .fints g kd h, .whole id => ∃ g', H id = some (.ints g' kd (Lc.l h)) ∧ (g = true → g' = true)
  | .ints g kd h, .part id lo n => g = false ∧ ∃ g' xs, H id = some (.ints g' kd xs) ∧ L.l h = (xs.drop lo).take n
  | .fints g kd h, .part id lo n => g = false ∧ ∃ g' xs, H id = some (.ints g' kd xs) ∧ Lc.l h = (xs.drop lo).take n
  | .ints _ _ h, .empty => L.l h = []
  | .fints _ _ h, .empty => Lc.l h = []
  | .recs g T h, .whole id => (∃ g', H id = some (.recs g' T (L.r h)) ∧ (g = true → g' = true)) ∨
      (g = false ∧ ∃ kd xss i b gb ys, T = ⟨[], some kd⟩ ∧ H id = some (.hole kd xss i b) ∧ H b = some (.ints gb kd ys) ∧ b ∈ lent ∧ L.r h = xss.set i ys)
  | .frecs g T h, .whole id => ∃ g', H id = some (.recs g' T (Lc.r h)) ∧ (g = true → g' = true)
  | .fhole kd h hi t, .whole id => ∃ b, H id = some (.hole kd (Lc.r h) (Lc.i hi).toNat b) ∧ σ[t]? = some (.whole b)
  | _, _ => False
theorem mBlk_sound {Lc : Option Leaves} {p : BPat} {v : View} {m : MS} {k : MS → Option Y} (hk : mBlk H Lc p v m k = some y) :
    ∃ m', k m' = some y ∧ Ext m m' ∧ ∀ mf, Ext m' mf → MatchB H mf.leaves (lcOf Lc mf) mf.σ mf.lent p v := by
  unfold mBlk at hk
  split at hk
  · split at hk
    · rename_i hb
      rw [gate_some] at hk
      obtain ⟨hh, hk⟩ := hk
      obtain rfl := Nat.eq_of_beq_eq_true hh
      obtain ⟨m', h1, h2, h3⟩ := mAtoms_sound hk
      exact ⟨m', h1, h2, fun mf hf => ⟨_, hb, h3 mf hf⟩⟩
    · simp at hk
  · rename_i g kd h id
    split at hk
    · rename_i g' kd' xs hb
      rw [gate_some] at hk
      obtain ⟨hh, hk⟩ := hk
      simp only [Bool.and_eq_true, eqK_iff] at hh
      obtain ⟨hg, rfl⟩ := hh
      obtain ⟨m', h1, h2, h3⟩ := pushL_sound hk
      exact ⟨m', h1, h2, fun mf hf => ⟨g', by rw [h3 mf hf]; exact hb, fun hg' => by simpa [hg'] using hg⟩⟩
    · simp at hk
  · rename_i g kd h id
    split at hk
    · rename_i g' kd' xs hb
      rw [gate_some] at hk
      obtain ⟨hh, hk⟩ := hk
      simp only [Bool.and_eq_true, eqK_iff] at hh
      obtain ⟨hg, rfl⟩ := hh
      obtain ⟨m', h1, h2, h3⟩ := fixL_sound hk
      exact ⟨m', h1, h2, fun mf hf => ⟨g', by rw [h3 mf hf]; exact hb, fun hg' => by simpa [hg'] using hg⟩⟩
    · simp at hk
  · split at hk
    · rename_i hb
      rw [gate_some, eqK_iff] at hk
      obtain ⟨rfl, hk⟩ := hk
      obtain ⟨m', h1, h2, h3⟩ := pushL_sound hk
      exact ⟨m', h1, h2, fun mf hf => ⟨rfl, _, _, hb, h3 mf hf⟩⟩
    · simp at hk
  · split at hk
    · rename_i hb
      rw [gate_some, eqK_iff] at hk
      obtain ⟨rfl, hk⟩ := hk
      obtain ⟨m', h1, h2, h3⟩ := fixL_sound hk
      exact ⟨m', h1, h2, fun mf hf => ⟨rfl, _, _, hb, h3 mf hf⟩⟩
    · simp at hk
  · obtain ⟨m', h1, h2, h3⟩ := pushL_sound hk
    exact ⟨m', h1, h2, fun mf hf => h3 mf hf⟩
  · obtain ⟨m', h1, h2, h3⟩ := fixL_sound hk
    exact ⟨m', h1, h2, fun mf hf => h3 mf hf⟩
  · rename_i g T h id
    split at hk
    · rename_i g' T' xss hb
      rw [gate_some] at hk
      obtain ⟨hh, hk⟩ := hk
      simp only [Bool.and_eq_true, eqT_iff] at hh
      obtain ⟨hg, rfl⟩ := hh
      obtain ⟨m', h1, h2, h3⟩ := pushR_sound hk
      exact ⟨m', h1, h2, fun mf hf => Or.inl ⟨g', by rw [h3 mf hf]; exact hb, fun hg' => by simpa [hg'] using hg⟩⟩
    · rename_i kd xss i b hb
      split at hk
      · rename_i gb kd' ys hbb
        rw [gate_some] at hk
        obtain ⟨hh, hk⟩ := hk
        simp only [Bool.and_eq_true, eqT_iff, eqK_iff, Bool.not_eq_true'] at hh
        obtain ⟨⟨hg, hT⟩, rfl⟩ := hh
        obtain ⟨m', h1, h2, h3⟩ := pushR_sound hk
        obtain ⟨g1, g2⟩ := lend_ext m (some b)
        exact ⟨m', h1, g1.trans h2, fun mf hf => Or.inr ⟨hg, kd, xss, i, b, gb, ys, hT, hb, hbb, hf.lent b (h2.lent b (g2 b rfl)), h3 mf hf⟩⟩
      · simp at hk
    · simp at hk
  · rename_i g T h id
    split at hk
    · rename_i g' T' xss hb
      rw [gate_some] at hk
      obtain ⟨hh, hk⟩ := hk
      simp only [Bool.and_eq_true, eqT_iff] at hh
      obtain ⟨hg, rfl⟩ := hh
      obtain ⟨m', h1, h2, h3⟩ := fixR_sound hk
      exact ⟨m', h1, h2, fun mf hf => ⟨g', by rw [h3 mf hf]; exact hb, fun hg' => by simpa [hg'] using hg⟩⟩
    · simp at hk
  · rename_i kd h hi t id
    split at hk
    · rename_i kd' xss i b hb
      rw [gate_some, eqK_iff] at hk
      obtain ⟨rfl, hk⟩ := hk
      obtain ⟨m1, h1, h2, h3⟩ := fixR_sound hk
      obtain ⟨m2, g1, g2, g3⟩ := fixN_sound h1
      obtain ⟨m', k1, k2, k3⟩ := bindView_sound (by simp) g1
      refine ⟨m', k1, h2.trans (g2.trans k2), fun mf hf => ⟨b, ?_, k3 mf hf⟩⟩
      rw [h3 mf (g2.trans (k2.trans hf)), g3 mf (k2.trans hf)]
      exact hb
    · simp at hk
  · simp at hk
theorem mBlks_sound {Lc : Option Leaves} : ∀ {ps : List (Nat × BPat)} {m : MS} {k : MS → Option Y}, mBlks H Lc ps m k = some y →
    ∃ m', k m' = some y ∧ Ext m m' ∧ ∀ mf, Ext m' mf → ∀ q ∈ ps, q.2 = .dead ∨ ∃ v, mf.σ[q.1]? = some v ∧ MatchB H mf.leaves (lcOf Lc mf) mf.σ mf.lent q.2 v
  | [], m, k, hk => ⟨m, hk, .refl m, fun _ _ q hq => by simp at hq⟩
  | (t, p) :: ps, m, k, hk => by
    simp only [mBlks] at hk
    split at hk
    · obtain ⟨m2, g1, g2, g3⟩ := mBlks_sound hk
      refine ⟨m2, g1, g2, fun mf hf q hq => ?_⟩
      rcases List.mem_cons.1 hq with rfl | hq
      · exact Or.inl rfl
      · exact g3 mf hf q hq
    · split at hk
      · rename_i v hv
        rw [nth_eq] at hv
        obtain ⟨m1, h1, h2, h3⟩ := mBlk_sound hk
        obtain ⟨m2, g1, g2, g3⟩ := mBlks_sound h1
        refine ⟨m2, g1, h2.trans g2, fun mf hf q hq => ?_⟩
        rcases List.mem_cons.1 hq with rfl | hq
        · have hm := h3 mf (g2.trans hf)
          refine Or.inr ⟨v, (h2.trans (g2.trans hf)).σ t v hv (fun hn => ?_), hm⟩
          subst hn
          unfold MatchB at hm
          split at hm <;> simp_all
        · exact g3 mf hf q hq
      · simp at hk
end Go.Eng
/-
  The engine, part six: a state under the names of a shape.
  Conditions: none; nothing is claimed of the program here.
-/
namespace Go.Eng
variable {RT : RoTab} {E : Env} {F : Fr} {a : Act} {H : Heap} {fp : Fp} {w : World} {P : Program} {Y : Type} {y : Y}
def Simple : Atom → Prop
  | .int _ _ | .bool _ | .str _ | .roi _ _ | .nilp | .nils => True
  | _ => False
def RTok (RT : RoTab) : Prop := ∀ tag T i j, RT tag = some T → Simple (T.f i j)
theorem R.simple {E' : Env} {x : Atom} {u : Value} (hM : ∀ ad v, E.M ad = some v → E'.M ad = some v) (hs : Simple x) (h : R RT E x u) : R RT E' x u := by
  cases h with
  | int k n => exact .int k n
  | bool b => exact .bool b
  | str s => exact .str s
  | nilp => exact .nilp
  | nils => exact .nils
  | roi hc hx => exact .roi hc fun i hi => let ⟨ad, h1, h2, h3⟩ := hx i hi; ⟨ad, h1, h2, hM _ _ h3⟩
  | _ => simp [Simple] at hs
def viewInfo (E : Env) : View → Option Info
  | .none => none
  | .whole id => E.info id
  | .part id lo n => (E.info id).map fun I => ⟨I.cb, I.coff + lo, n, n, 1, false⟩
  | .empty => some ⟨0, 0, 0, 0, 1, true⟩
def viewFp (E : Env) (fp : Fp) (v : View) (x : Nat × Nat) : Prop :=
  match v with
  | .none => False
  | .whole id => fp id x
  | .part id lo n => ∃ I, E.info id = some I ∧ Own ⟨I.cb, I.coff + lo, n, n, 1, false⟩ x
  | .empty => False
open Classical in
noncomputable def baseE (E : Env) (H : Heap) (fp : Fp) (w : World) (σ : List View) (lent : List Nat) : Env where
  info := fun t => match σ[t]? with
    | some v => viewInfo E v
    | none => none
  M := fun ad => match E.M ad with
    | some v => some v
    | none => if ad.spot = none ∧ ∃ id b, id ∈ lent ∧ H id = some b ∧ fp id (ad.block, ad.off) then w.cell? ad else none
def baseFp (E : Env) (fp : Fp) (σ : List View) : Fp := fun t x => match σ[t]? with
  | some v => viewFp E fp v x
  | none => False
theorem baseE_M {σ : List View} {lent : List Nat} {ad : Addr} {v : Value} (h : E.M ad = some v) : (baseE E H fp w σ lent).M ad = some v := by
  simp [baseE, h]
theorem baseE_none {σ : List View} {lent : List Nat} (hl : noLent lent = true) {ad : Addr} {v : Value} (h : (baseE E H fp w σ lent).M ad = some v) : E.M ad = some v := by
  cases lent with
  | cons => simp [noLent] at hl
  | nil =>
    cases hm : E.M ad with
    | some u => rw [baseE_M hm] at h; exact h
    | none => simp [baseE, hm] at h
theorem baseE_ext {σ : List View} {lent : List Nat} : MExt E H fp w (baseE E H fp w σ lent) := by
  intro ad v h
  cases hm : E.M ad with
  | some u => rw [baseE_M hm] at h; exact Or.inl h
  | none =>
    simp only [baseE, hm] at h
    split at h
    · rename_i hc
      obtain ⟨_, id, b, _, hb, hf⟩ := hc
      exact Or.inr (Or.inr ⟨id, b, hb, hf⟩)
    · simp at h
theorem baseE_info {σ : List View} {lent : List Nat} {t : Nat} {v : View} (h : σ[t]? = some v) : (baseE E H fp w σ lent).info t = viewInfo E v := by
  simp [baseE, h]
theorem baseE_lent {σ : List View} {lent : List Nat} (hs : Sim RT E H fp w) {ad : Addr} {v : Value} {id : Nat} {b : Blk} (hsp : ad.spot = none) (hid : id ∈ lent) (hb : H id = some b)
    (hf : fp id (ad.block, ad.off)) (hc : w.cell? ad = some v) : (baseE E H fp w σ lent).M ad = some v := by
  cases hm : E.M ad with
  | some u =>
    rw [baseE_M hm, ← hc]
    exact (hs.ro ad u hm).2.1.symm
  | none =>
    simp only [baseE, hm]
    rw [if_pos ⟨hsp, id, b, hid, hb, hf⟩]
    exact hc
theorem ro_R {kd : IntKind} {x : Atom} {u : Value} {xs : List Int} {l : Option Nat} {σ : List View} {lent : List Nat} (hs : Sim RT E H fp w) (hx : R RT E x u) (hr : RoA H kd x xs l)
    (hl : ∀ id, l = some id → id ∈ lent) : R RT (baseE E H fp w σ lent) (.roi kd xs) u := by
  obtain ⟨xs', l', h1, ⟨base, cap, rfl, hc, hh⟩, h3⟩ := ro_sound hs hx hr
  simp only [Option.some.injEq, Prod.mk.injEq] at h1
  obtain ⟨rfl, rfl⟩ := h1
  refine R.roi hc fun i hi => ?_
  obtain ⟨ad, hb, hsp, hcell⟩ := hh i hi
  refine ⟨ad, hb, hsp, ?_⟩
  cases l' with
  | none =>
    simp only at h3
    cases h3 with
    | roi _ hx' =>
      obtain ⟨ad', hb', _, hm⟩ := hx' i hi
      rw [hb] at hb'
      obtain rfl := Option.some.inj hb'
      exact baseE_M hm
  | some id =>
    obtain ⟨b, hbk, hfp⟩ := h3
    exact baseE_lent hs rfl (hl id rfl) hbk (hfp base cap ad i rfl hb hi) hcell
theorem All2.get {α β : Type} {r : α → β → Prop} : ∀ {as : List α} {bs : List β}, All2 r as bs → ∀ {j : Nat} {x : α}, as[j]? = some x → ∃ z, bs[j]? = some z ∧ r x z
  | _, _, .nil, j, x, h => by simp at h
  | _, _, .cons hr hs, 0, x, h => by simp at h; subst h; exact ⟨_, rfl, hr⟩
  | _, _, .cons hr hs, j + 1, x, h => by simp at h; simpa using hs.get h
theorem All2.length {α β : Type} {r : α → β → Prop} : ∀ {as : List α} {bs : List β}, All2 r as bs → as.length = bs.length
  | _, _, .nil => rfl
  | _, _, .cons _ hs => by simp [hs.length]
theorem cloA_get : ∀ {ts : List (Nat × Nat)} {j : Nat} {x : Atom}, (cloA ts)[j]? = some x → ∃ q, ts[j]? = some q ∧ x = .ptr q.1 q.2
  | [], j, x, h => by simp [cloA] at h
  | (t, off) :: r, 0, x, h => by simp only [cloA, List.getElem?_cons_zero, Option.some.injEq] at h; exact ⟨(t, off), rfl, h.symm⟩
  | (t, off) :: r, j + 1, x, h => by simp only [cloA, List.getElem?_cons_succ] at h ⊢; exact cloA_get h
theorem cloA_len : ∀ ts : List (Nat × Nat), (cloA ts).length = ts.length
  | [] => rfl
  | (t, off) :: r => by simp [cloA, cloA_len r]
theorem matchA_R {L Lc : Leaves} {σ : List View} {lent : List Nat} {p : Pat} {x : Atom} {u : Value} (hRT : RTok RT) (hs : Sim RT E H fp w) (hm : MatchA H L Lc σ lent p x) (hx : R RT E x u) :
    R RT (baseE E H fp w σ lent) (fAtom L Lc p) u := by
  cases p with
  | unk => exact .unk u
  | bool h => simp only [MatchA] at hm; subst hm; rw [R.bool_inv hx]; exact .bool _
  | int k h => simp only [MatchA] at hm; subst hm; rw [R.int_inv hx]; exact .int _ _
  | fbool h => simp only [MatchA] at hm; subst hm; rw [R.bool_inv hx]; exact .bool _
  | fint k h => simp only [MatchA] at hm; subst hm; rw [R.int_inv hx]; exact .int _ _
  | roi k h => obtain ⟨l, h1, h2⟩ := hm; exact ro_R hs hx h1 h2
  | froi k h => obtain ⟨l, h1, h2⟩ := hm; exact ro_R hs hx h1 h2
  | nilp => simp only [MatchA] at hm; subst hm; cases hx; exact .nilp
  | nils => simp only [MatchA] at hm; subst hm; cases hx; exact .nils
  | ptr t off =>
    obtain ⟨id, rfl, hv⟩ := hm
    cases hx with
    | ptr h => exact R.ptr (by rw [baseE_info hv]; exact h)
  | full t nn =>
    rcases hm with ⟨id, nn', rfl, hn, hv⟩ | ⟨rfl, id, lo, n, rfl, hv⟩ | ⟨rfl, rfl, hv⟩
    · cases hx with
      | full h hb hn' hc hg => exact R.full (by rw [baseE_info hv]; exact h) hb (fun h => hn' (hn h)) hc hg
    · cases hx with
      | sub h hw hl hc hb =>
        rename_i cap I base
        refine R.full (I := ⟨I.cb, I.coff + lo, n, n, 1, false⟩) (by rw [baseE_info hv]; simp [viewInfo, h]) ?_ (fun h => by simp at h) hc (fun h => by simp at h)
        rcases hb with hb | h0
        · left; rw [hb, hw, Nat.mul_one]
        · right; exact ⟨h0, fun h => by simp at h⟩
    · cases hx
      exact R.full (I := ⟨0, 0, 0, 0, 1, true⟩) (by rw [baseE_info hv]; rfl) (Or.inr ⟨rfl, fun _ => rfl⟩) (fun h => by simp at h) (Nat.le_refl _) (fun _ => rfl)
  | ror tag =>
    simp only [MatchA] at hm
    subst hm
    cases hx with
    | ror uu hT hc hx hr =>
      exact R.ror uu hT hc (fun i j hi hj => let ⟨ad, h1, h2, h3⟩ := hx i j hi hj; ⟨ad, h1, h2, baseE_M h3⟩) fun i j hi hj => (hr i j hi hj).simple (fun _ _ h => baseE_M h) (hRT _ _ _ _ hT)
  | fn f =>
    simp only [MatchA] at hm
    subst hm
    cases hx with
    | fn hn hr => exact R.fn hn fun j x hj => by simp at hj
  | ifp ty t off =>
    obtain ⟨id, rfl, hv⟩ := hm
    cases hx with
    | ifa hr =>
      cases hr with
      | ptr h => exact R.ifa (R.ptr (by rw [baseE_info hv]; exact h))
  | fsub t h1 h2 =>
    obtain ⟨id, rfl, hv⟩ := hm
    cases hx with
    | sub h hw hl hc hb => exact R.sub (by rw [baseE_info hv]; exact h) hw hl hc hb
  | clo f ts =>
    obtain ⟨cs, rfl, hq⟩ := hm
    cases hx with
    | fn hn hr =>
      refine R.fn (by rw [hn, cloA_len]; exact hq.length.symm) fun j x hj => ?_
      obtain ⟨q, hts, rfl⟩ := cloA_get hj
      obtain ⟨c, hc, id, rfl, hv⟩ := hq.get hts
      obtain ⟨I, hI, hu⟩ := R.ptr_inv (hr j _ hc)
      rw [hu]
      exact R.ptr (by rw [baseE_info hv]; exact hI)
theorem fAtoms_eq (L Lc : Leaves) : ∀ ps : List Pat, fAtoms L Lc ps = ps.map (fAtom L Lc)
  | [] => rfl
  | p :: ps => by simp [fAtoms, fAtoms_eq L Lc ps]
theorem matchAs_RCs {L Lc : Leaves} {σ : List View} {lent : List Nat} {ps : List Pat} {xs : List Atom} {vs : Array Value} (hRT : RTok RT) (hs : Sim RT E H fp w) (hm : MatchAs H L Lc σ lent ps xs)
    (hc : RCs RT E xs vs) : RCs RT (baseE E H fp w σ lent) (fAtoms L Lc ps) vs := by
  rw [fAtoms_eq]
  refine ⟨by rw [hc.1, ← hm.length]; simp, fun j x hj => ?_⟩
  rw [List.getElem?_map] at hj
  cases hp : ps[j]? with
  | none => simp [hp] at hj
  | some p =>
    simp [hp] at hj
    subst hj
    obtain ⟨z, hz, hr⟩ := hm.get hp
    exact matchA_R hRT hs hr (hc.2 _ _ hz)
theorem matchV_RV {L Lc : Leaves} {σ : List View} {lent : List Nat} {p : VPat} {x : AV} {u : Value} (hRT : RTok RT) (hs : Sim RT E H fp w) (hm : MatchV H L Lc σ lent p x) (hx : RV RT E x u) :
    RV RT (baseE E H fp w σ lent) (fAV L Lc p) u := by
  cases p with
  | «at» p =>
    have key : (∃ b, x = .at b ∧ MatchA H L Lc σ lent p b) → RV RT (baseE E H fp w σ lent) (fAV L Lc (.at p)) u := by
      rintro ⟨b, rfl, hm'⟩
      exact matchA_R (x := b) hRT hs hm' hx
    cases p <;> first | exact R.unk u | exact key hm
  | agg ps =>
    obtain ⟨as, rfl, hm⟩ := hm
    obtain ⟨vs, rfl, hc⟩ := hx
    exact ⟨vs, rfl, matchAs_RCs hRT hs hm hc⟩
  | tup ps =>
    obtain ⟨as, rfl, hm⟩ := hm
    obtain ⟨vs, rfl, hn, hc⟩ := hx
    have hft : ∀ ps : List (Bool × List Pat), fTup L Lc ps = ps.map fun p => (p.1, fAtoms L Lc p.2) := by
      intro ps
      induction ps with
      | nil => rfl
      | cons p ps ih => obtain ⟨g, q⟩ := p; simp [fTup, ih]
    refine ⟨vs, rfl, by rw [hn, hft, ← hm.length]; simp, fun j q hj => ?_⟩
    rw [hft, List.getElem?_map] at hj
    cases hp : ps[j]? with
    | none => simp [hp] at hj
    | some p =>
      simp [hp] at hj
      subst hj
      obtain ⟨⟨g, z⟩, hz, hg, hr⟩ := hm.get hp
      obtain ⟨g', q⟩ := p
      simp only at hg hr
      subst hg
      have hrp := hc _ _ hz
      cases g' with
      | true =>
        obtain ⟨vs', he, hc'⟩ := hrp
        exact ⟨vs', he, matchAs_RCs hRT hs hr hc'⟩
      | false =>
        match z, hrp, hr with
        | [b], hrp, .cons hb .nil => exact matchA_R (x := b) hRT hs hb hrp
theorem fHeap_get (L Lc : Leaves) (H0 : Heap) : ∀ {blks : List (Nat × BPat)} {t : Nat} {b : Blk}, fHeap L Lc H0 blks t = some b →
    (∃ q ∈ blks, q.1 = t ∧ fBlk L Lc q.2 = some b) ∨ (H0 t = some b ∧ ∀ q ∈ blks, q.1 ≠ t)
  | [], t, b, h => Or.inr ⟨h, fun q hq => by simp at hq⟩
  | (t', p) :: r, t, b, h => by
    simp only [fHeap] at h
    rw [putH_eq] at h
    split at h
    · rename_i ht; exact Or.inl ⟨(t', p), by simp, ht.symm, h⟩
    · rename_i ht
      rcases fHeap_get L Lc H0 h with ⟨q, hq, h1, h2⟩ | ⟨h1, h2⟩
      · exact Or.inl ⟨q, by simp [hq], h1, h2⟩
      · refine Or.inr ⟨h1, fun q hq => ?_⟩
        rcases List.mem_cons.1 hq with rfl | hq
        · exact fun he => ht he.symm
        · exact h2 q hq
def viewId : View → Option Nat
  | .whole id => some id
  | .part id _ _ => some id
  | _ => none
theorem beq_ne {a b : Nat} (h : (!Nat.beq a b) = true) : a ≠ b := by
  intro he
  subst he
  simp at h
theorem apartId_get {id : Nat} : ∀ {vs : List View} {t : Nat} {v : View} {id' : Nat}, apartId id vs = true → vs[t]? = some v → viewId v = some id' → id ≠ id'
  | [], t, v, id', _, h, _ => by simp at h
  | v0 :: vs, 0, v, id', h, hv, hi => by
    simp at hv
    subst hv
    cases v0 with
    | whole i => simp only [viewId, Option.some.injEq] at hi; subst hi; simp only [apartId, Bool.and_eq_true] at h; exact beq_ne h.1
    | part i lo n => simp only [viewId, Option.some.injEq] at hi; subst hi; simp only [apartId, Bool.and_eq_true] at h; exact beq_ne h.1
    | _ => simp [viewId] at hi
  | v0 :: vs, t + 1, v, id', h, hv, hi => by
    simp at hv
    refine apartId_get (vs := vs) ?_ hv hi
    cases v0 <;> simp only [apartId, Bool.and_eq_true] at h <;> first | exact h.2 | exact h
theorem viewsApart_get : ∀ {vs : List View} {t t' : Nat} {v v' : View} {id id' : Nat}, viewsApart vs = true → t < t' → vs[t]? = some v → vs[t']? = some v' →
    viewId v = some id → viewId v' = some id' → id ≠ id'
  | [], t, t', v, v', id, id', _, _, h, _, _, _ => by simp at h
  | v0 :: vs, 0, t' + 1, v, v', id, id', h, _, hv, hv', hi, hi' => by
    simp at hv hv'
    subst hv
    cases v0 with
    | whole i => simp only [viewId, Option.some.injEq] at hi; subst hi; simp only [viewsApart, Bool.and_eq_true] at h; exact apartId_get h.1 hv' hi'
    | part i lo n => simp only [viewId, Option.some.injEq] at hi; subst hi; simp only [viewsApart, Bool.and_eq_true] at h; exact apartId_get h.1 hv' hi'
    | _ => simp [viewId] at hi
  | v0 :: vs, 0, 0, v, v', id, id', _, hlt, _, _, _, _ => by omega
  | v0 :: vs, t + 1, t' + 1, v, v', id, id', h, hlt, hv, hv', hi, hi' => by
    simp at hv hv'
    refine viewsApart_get (vs := vs) ?_ (by omega) hv hv' hi hi'
    cases v0 <;> simp only [viewsApart, Bool.and_eq_true] at h <;> first | exact h.2 | exact h
  | v0 :: vs, t + 1, 0, v, v', id, id', _, hlt, _, _, _, _ => by omega
theorem viewsApart_ne {vs : List View} {t t' : Nat} {v v' : View} {id id' : Nat} (h : viewsApart vs = true) (ht : t ≠ t') (hv : vs[t]? = some v) (hv' : vs[t']? = some v')
    (hi : viewId v = some id) (hi' : viewId v' = some id') : id ≠ id' := by
  rcases Nat.lt_or_ge t t' with hl | hl
  · exact viewsApart_get h hl hv hv' hi hi'
  · exact (viewsApart_get h (by omega) hv' hv hi' hi).symm
theorem lentApart_get {σ : List View} : ∀ {l : List Nat} {id t : Nat} {v : View} {id' : Nat}, lentApart σ l = true → id ∈ l → σ[t]? = some v → viewId v = some id' → id ≠ id'
  | [], id, t, v, id', _, h, _, _ => by simp at h
  | i :: l, id, t, v, id', h, hm, hv, hi => by
    simp only [lentApart, Bool.and_eq_true] at h
    rcases List.mem_cons.1 hm with rfl | hm
    · exact apartId_get h.1 hv hi
    · exact lentApart_get h.2 hm hv hi
theorem viewFp_sub {v : View} {x : Nat × Nat} (hs : Sim RT E H fp w) {p : BPat} {L Lc : Leaves} {σ : List View} {lent : List Nat} (hm : MatchB H L Lc σ lent p v) (hlo : ∀ id lo n g kd xs, v = .part id lo n → H id = some (.ints g kd xs) → lo + n ≤ xs.length)
    (hx : viewFp E fp v x) : ∃ id b, viewId v = some id ∧ H id = some b ∧ fp id x := by
  cases v with
  | none => exact hx.elim
  | empty => exact hx.elim
  | whole id =>
    cases p with
    | cells wd ps => obtain ⟨cs, hb, _⟩ := hm; exact ⟨id, _, rfl, hb, hx⟩
    | ints g k h => obtain ⟨g', hb, _⟩ := hm; exact ⟨id, _, rfl, hb, hx⟩
    | fints g k h => obtain ⟨g', hb, _⟩ := hm; exact ⟨id, _, rfl, hb, hx⟩
    | recs g T h =>
      rcases hm with ⟨g', hb, _⟩ | ⟨_, kd, xss, i, b, gb, ys, _, hb, _⟩
      · exact ⟨id, _, rfl, hb, hx⟩
      · exact ⟨id, _, rfl, hb, hx⟩
    | frecs g T h => obtain ⟨g', hb, _⟩ := hm; exact ⟨id, _, rfl, hb, hx⟩
    | fhole k h hi t => obtain ⟨b, hb, _⟩ := hm; exact ⟨id, _, rfl, hb, hx⟩
    | dead => exact hm.elim
  | part id lo n =>
    have hb : ∃ g' kd xs, H id = some (.ints g' kd xs) := by
      cases p with
      | ints g k h => obtain ⟨_, g', xs, hb, _⟩ := hm; exact ⟨g', _, xs, hb⟩
      | fints g k h => obtain ⟨_, g', xs, hb, _⟩ := hm; exact ⟨g', _, xs, hb⟩
      | _ => exact hm.elim
    obtain ⟨g', kd, xs, hb⟩ := hb
    obtain ⟨I, hI, ho⟩ := hx
    obtain ⟨J, hJ, ok⟩ := hs.blk _ _ hb
    rw [hI] at hJ
    obtain rfl := Option.some.inj hJ
    have hl := hlo _ _ _ _ _ _ rfl hb
    refine ⟨id, _, rfl, hb, (ok.own _).2 ?_⟩
    obtain ⟨h1, h2, h3⟩ := ho
    obtain ⟨hw, hn, _⟩ := ok.kind
    have hc := ok.cap
    simp only [Bool.false_eq_true, if_false, Nat.mul_one] at h1 h2 h3
    refine ⟨h1, by omega, ?_⟩
    rw [hw]
    split <;> omega
theorem Sim.base {L Lc : Leaves} {σ : List View} {lent : List Nat} {blks : List (Nat × BPat)} (hRT : RTok RT) (hs : Sim RT E H fp w)
    (hm : ∀ q ∈ blks, q.2 = .dead ∨ ∃ v, σ[q.1]? = some v ∧ MatchB H L Lc σ lent q.2 v) (ha : viewsApart σ = true) (hl : lentApart σ lent = true)
    (hp : ∀ (t id lo n : Nat) g kd xs, σ[t]? = some (.part id lo n) → H id = some (.ints g kd xs) → lo + n ≤ xs.length) :
    Sim RT (baseE E H fp w σ lent) (fHeap L Lc noHeap blks) (baseFp E fp σ) w := by
  have hget : ∀ {t : Nat} {b : Blk}, fHeap L Lc noHeap blks t = some b → ∃ q v, q ∈ blks ∧ q.1 = t ∧ fBlk L Lc q.2 = some b ∧ σ[t]? = some v ∧ MatchB H L Lc σ lent q.2 v := by
    intro t b hb
    rcases fHeap_get L Lc noHeap hb with ⟨q, hq, rfl, h2⟩ | ⟨h1, _⟩
    · rcases hm q hq with hd | ⟨v, h3, h4⟩
      · rw [hd] at h2; simp [fBlk] at h2
      · exact ⟨q, v, hq, rfl, h2, h3, h4⟩
    · simp [noHeap] at h1
  have hsub : ∀ {t : Nat} {b : Blk} {x : Nat × Nat}, fHeap L Lc noHeap blks t = some b → baseFp E fp σ t x → ∃ v id b', σ[t]? = some v ∧ viewId v = some id ∧ H id = some b' ∧ fp id x := by
    intro t b x hb hx
    obtain ⟨q, v, _, _, _, hv, hM⟩ := hget hb
    simp only [baseFp, hv] at hx
    obtain ⟨id, b', h1, h2, h3⟩ := viewFp_sub hs hM (fun id lo n g kd xs he hb' => by subst he; exact hp _ _ _ _ _ _ _ hv hb') hx
    exact ⟨v, id, b', hv, h1, h2, h3⟩
  refine ⟨fun t b hb => ?_, fun i j b c x hb hc hij hx hy => ?_, fun ad v h => ?_⟩
  · obtain ⟨⟨t', p⟩, v, hq, ht, hfb, hv, hM⟩ := hget hb
    simp only at ht hfb hM
    subst ht
    cases v with
    | none => cases p <;> exact hM.elim
    | whole id =>
      have key : ∀ b0, H id = some b0 → ∃ I, (baseE E H fp w σ lent).info t' = some I ∧ BlkOK RT E b0 I (fp id) w := by
        intro b0 hb0
        obtain ⟨I, hI, ok⟩ := hs.blk _ _ hb0
        exact ⟨I, by rw [baseE_info hv]; exact hI, ok⟩
      have hfp : baseFp E fp σ t' = fp id := by funext x; simp [baseFp, hv, viewFp]
      rw [hfp]
      cases p with
      | cells wd ps =>
        obtain ⟨cs, hb0, hma⟩ := hM
        obtain ⟨I, hI, ok⟩ := key _ hb0
        simp only [fBlk, Option.some.injEq] at hfb
        subst hfb
        obtain ⟨k1, k2, k3, k4⟩ := ok.kind
        refine ⟨I, hI, ⟨ok.own, ok.cap, ok.live, k1, by rw [k2, fAtoms_eq, ← hma.length]; simp, k3, fun j x hj => ?_⟩⟩
        rw [fAtoms_eq, List.getElem?_map] at hj
        cases hpj : ps[j]? with
        | none => simp [hpj] at hj
        | some p =>
          simp [hpj] at hj
          subst hj
          obtain ⟨z, hz, hr⟩ := hma.get hpj
          obtain ⟨u, hu, hru⟩ := k4 j z hz
          exact ⟨u, hu, matchA_R hRT hs hr hru⟩
      | ints g kd h =>
        obtain ⟨g', hb0, hgg⟩ := hM
        obtain ⟨I, hI, ok⟩ := key _ hb0
        simp only [fBlk, Option.some.injEq] at hfb
        subst hfb
        obtain ⟨k1, k2, k3, k4⟩ := ok.kind
        exact ⟨I, hI, ⟨ok.own, ok.cap, ok.live, k1, k2, fun h => k3 (hgg h), k4⟩⟩
      | fints g kd h =>
        obtain ⟨g', hb0, hgg⟩ := hM
        obtain ⟨I, hI, ok⟩ := key _ hb0
        simp only [fBlk, Option.some.injEq] at hfb
        subst hfb
        obtain ⟨k1, k2, k3, k4⟩ := ok.kind
        exact ⟨I, hI, ⟨ok.own, ok.cap, ok.live, k1, k2, fun h => k3 (hgg h), k4⟩⟩
      | recs g T h =>
        simp only [fBlk, Option.some.injEq] at hfb
        subst hfb
        rcases hM with ⟨g', hb0, hgg⟩ | ⟨rfl, kd, xss, i0, b0, gb, ys, rfl, hb0, hbb, hlent, hr⟩
        · obtain ⟨I, hI, ok⟩ := key _ hb0
          obtain ⟨k1, k2, k3, k4⟩ := ok.kind
          exact ⟨I, hI, ⟨ok.own, ok.cap, ok.live, k1, k2, fun h => k3 (hgg h), fun i j x hi hj => let ⟨u, hu, hru⟩ := k4 i j x hi hj; ⟨u, hu, recA_R hj (fun _ _ h => baseE_M h) hru⟩⟩⟩
        · obtain ⟨I, hI, ok⟩ := key _ hb0
          obtain ⟨k1, k2, k3⟩ := ok.kind
          refine ⟨I, hI, ⟨ok.own, ok.cap, ok.live, k1, by rw [hr, List.length_set]; exact k2, fun h => by simp at h, fun i j x hi hj => ?_⟩⟩
          rw [hr, List.length_set] at hi
          obtain ⟨u, hu, hru⟩ := k3 i hi
          cases j with
          | succ j => simp [recA, recAs] at hj
          | zero =>
            simp only [recA, recAs, List.getElem?_cons_zero, Option.some.injEq] at hj
            subst hj
            refine ⟨u, by rw [k1, Nat.mul_one, Nat.add_zero]; exact hu, ?_⟩
            rw [hr]
            by_cases hii : i = i0
            · subst hii
              rw [if_pos rfl] at hru
              have hm : MatchA H ⟨L.i, L.b, fun _ => ys, L.r⟩ Lc σ lent (.roi kd 0) (.full b0 true) := ⟨some b0, by simp [RoA, roA, hbb, gate, eqK_iff.2 rfl], fun id hid => by simp at hid; subst hid; exact hlent⟩
              have := matchA_R hRT hs hm hru
              simp only [fAtom] at this
              rw [List.getD_eq_getElem?_getD, List.getElem?_set_self hi]
              exact this
            · rw [if_neg hii] at hru
              rw [List.getD_eq_getElem?_getD, List.getElem?_set_ne (Ne.symm hii), ← List.getD_eq_getElem?_getD]
              exact roi_R (fun _ _ h => baseE_M h) hru
      | frecs g T h =>
        obtain ⟨g', hb0, hgg⟩ := hM
        simp only [fBlk, Option.some.injEq] at hfb
        subst hfb
        obtain ⟨I, hI, ok⟩ := key _ hb0
        obtain ⟨k1, k2, k3, k4⟩ := ok.kind
        exact ⟨I, hI, ⟨ok.own, ok.cap, ok.live, k1, k2, fun h => k3 (hgg h), fun i j x hi hj => let ⟨u, hu, hru⟩ := k4 i j x hi hj; ⟨u, hu, recA_R hj (fun _ _ h => baseE_M h) hru⟩⟩⟩
      | fhole kd h hi t =>
        obtain ⟨b0, hb0, hv0⟩ := hM
        simp only [fBlk, Option.some.injEq] at hfb
        subst hfb
        obtain ⟨I, hI, ok⟩ := key _ hb0
        obtain ⟨k1, k2, k3⟩ := ok.kind
        refine ⟨I, hI, ⟨ok.own, ok.cap, ok.live, k1, k2, fun i hi => ?_⟩⟩
        obtain ⟨u, hu, hru⟩ := k3 i hi
        refine ⟨u, hu, ?_⟩
        split at hru
        · rename_i he
          rw [if_pos he]
          have hm : MatchA H L Lc σ lent (.full t true) (.full b0 true) := Or.inl ⟨b0, true, rfl, fun _ => rfl, hv0⟩
          exact matchA_R hRT hs hm hru
        · rename_i he
          rw [if_neg he]
          exact roi_R (fun _ _ h => baseE_M h) hru
      | dead => exact hM.elim
    | part id lo n =>
      have key : ∀ g kd xs zs, H id = some (.ints g kd xs) → zs = (xs.drop lo).take n → ∃ I, (baseE E H fp w σ lent).info t' = some I ∧ BlkOK RT (baseE E H fp w σ lent) (.ints false kd zs) I (baseFp E fp σ t') w := by
        intro g kd xs zs hb0 hzs
        have hln := hp _ _ _ _ _ _ _ hv hb0
        obtain ⟨I, hI, ok⟩ := hs.blk _ _ hb0
        obtain ⟨k1, k2, k3, k4⟩ := ok.kind
        have hc := ok.cap
        have hlen : zs.length = n := by rw [hzs]; simp; omega
        refine ⟨⟨I.cb, I.coff + lo, n, n, 1, false⟩, by rw [baseE_info hv]; simp [viewInfo, hI], ⟨fun x => ?_, Nat.le_refl _, fun x hx => ?_, rfl, hlen.symm, fun h => by simp at h, fun j hj => ?_⟩⟩
        · simp [baseFp, hv, viewFp, hI]
        · simp only [baseFp, hv, viewFp, hI, Option.some.injEq, exists_eq_left'] at hx
          obtain ⟨h1, h2, h3⟩ := hx
          simp only [Bool.false_eq_true, if_false, Nat.mul_one] at h1 h2 h3
          refine ok.live x ((ok.own x).2 ⟨h1, by omega, ?_⟩)
          rw [k1]
          split <;> omega
        · have hj' : j < n := by omega
          have := k4 (lo + j) (by omega)
          simp only
          rw [Nat.add_assoc, this, hzs]
          simp [List.getD_eq_getElem?_getD, List.getElem?_take_of_lt hj', List.getElem?_drop]
      cases p with
      | ints g kd h =>
        obtain ⟨rfl, g', xs, hb0, hz⟩ := hM
        simp only [fBlk, Option.some.injEq] at hfb
        subst hfb
        exact key _ _ _ _ hb0 hz
      | fints g kd h =>
        obtain ⟨rfl, g', xs, hb0, hz⟩ := hM
        simp only [fBlk, Option.some.injEq] at hfb
        subst hfb
        exact key _ _ _ _ hb0 hz
      | _ => exact hM.elim
    | empty =>
      have key : ∀ g kd zs, zs = [] → ∃ I, (baseE E H fp w σ lent).info t' = some I ∧ BlkOK RT (baseE E H fp w σ lent) (.ints g kd zs) I (baseFp E fp σ t') w := by
        rintro g kd zs rfl
        refine ⟨⟨0, 0, 0, 0, 1, true⟩, by rw [baseE_info hv]; rfl, ⟨fun x => ?_, Nat.le_refl _, fun x hx => ?_, rfl, rfl, fun _ => rfl, fun j hj => by simp at hj⟩⟩
        · simp [baseFp, hv, viewFp, Own]
        · simp [baseFp, hv, viewFp] at hx
      cases p with
      | ints g kd h => simp only [fBlk, Option.some.injEq] at hfb; subst hfb; exact key _ _ _ hM
      | fints g kd h => simp only [fBlk, Option.some.injEq] at hfb; subst hfb; exact key _ _ _ hM
      | _ => exact hM.elim
  · obtain ⟨v, id, b', h1, h2, h3, h4⟩ := hsub hb hx
    obtain ⟨v', id', b'', g1, g2, g3, g4⟩ := hsub hc hy
    exact hs.disj _ _ _ _ x h3 g3 (viewsApart_ne ha hij h1 g1 h2 g2) h4 g4
  · cases hm' : E.M ad with
    | some u =>
      rw [baseE_M hm'] at h
      obtain rfl := Option.some.inj h
      obtain ⟨h1, h2, h3⟩ := hs.ro ad u hm'
      refine ⟨h1, h2, fun t b hb hx => ?_⟩
      obtain ⟨v, id, b', _, _, g3, g4⟩ := hsub hb hx
      exact h3 id b' g3 g4
    | none =>
      simp only [baseE, hm'] at h
      split at h
      · rename_i hc
        obtain ⟨hsp, id, b, hid, hb, hf⟩ := hc
        refine ⟨hsp, h, fun t b' hb' hx => ?_⟩
        obtain ⟨v, id', b'', g1, g2, g3, g4⟩ := hsub hb' hx
        exact hs.disj _ _ _ _ _ hb g3 (lentApart_get hl hid g1 g2) hf g4
      · simp at h
end Go.Eng
/-
  The engine, part seven: a call by its callee's shape.
  Conditions: none; nothing is claimed of the program here.
-/
namespace Go.Eng
variable {RT : RoTab} {E : Env} {F : Fr} {a : Act} {H : Heap} {fp : Fp} {w : World} {P : Program} {Y : Type} {y : Y}
theorem mem_iff : ∀ {l : List Nat} {x : Nat}, mem l x = true ↔ x ∈ l
  | [], x => by simp [mem]
  | z :: r, x => by
    simp only [mem]
    split
    · rename_i h
      have := Nat.eq_of_beq_eq_true h
      simp [this]
    · rename_i h
      have hne : x ≠ z := fun he => by subst he; simp at h
      rw [mem_iff (l := r)]
      simp [hne]
def plainP : Pat → Bool
  | .ror _ => false
  | _ => true
def noFixP : Pat → Bool
  | .fbool _ | .fint _ _ | .froi _ _ | .fsub _ _ _ => false
  | _ => true
def allP (f : Pat → Bool) : List Pat → Bool
  | [] => true
  | p :: r => f p && allP f r
def allT (f : Pat → Bool) : List (Bool × List Pat) → Bool
  | [] => true
  | (_, ps) :: r => allP f ps && allT f r
def allV (f : Pat → Bool) : VPat → Bool
  | .at p => f p
  | .agg ps => allP f ps
  | .tup ps => allT f ps
def allVs (f : Pat → Bool) : List VPat → Bool
  | [] => true
  | p :: r => allV f p && allVs f r
def allB (f : Pat → Bool) : List (Nat × BPat) → Bool
  | [] => true
  | (_, .cells _ ps) :: r => allP f ps && allB f r
  | _ :: r => allB f r
def noFixB : List (Nat × BPat) → Bool
  | [] => true
  | (_, .fints _ _ _) :: _ => false
  | (_, .frecs _ _ _) :: _ => false
  | (_, .fhole _ _ _ _) :: _ => false
  | _ :: r => noFixB r
def below (n : Nat) : List (Nat × BPat) → Bool
  | [] => true
  | (t, _) :: r => Nat.blt t n && below n r
def upTo (l : List Nat) : Nat → Bool
  | 0 => true
  | n + 1 => mem l n && upTo l n
def specOk (s : Spec) : Bool :=
  allVs plainP s.args && (allB plainP s.pre && (allB plainP s.post && (allV plainP s.ret && (allVs noFixP s.args && (allB noFixP s.pre && (noFixB s.pre &&
    (distinct (ids s.post) && (below (s.n + len s.post) s.post && (upTo (ids s.post) s.n && (upTo (idsLive s.pre) s.n && distinct (ids s.pre)))))))))))
theorem allP_get {f : Pat → Bool} : ∀ {ps : List Pat} {p : Pat}, allP f ps = true → p ∈ ps → f p = true
  | [], p, _, h => by simp at h
  | q :: r, p, h, hm => by
    simp only [allP, Bool.and_eq_true] at h
    rcases List.mem_cons.1 hm with rfl | hm
    · exact h.1
    · exact allP_get h.2 hm
theorem fAtom_noFix {L Lc Lc' : Leaves} {p : Pat} (h : noFixP p = true) : fAtom L Lc p = fAtom L Lc' p := by
  cases p <;> first | rfl | simp [noFixP] at h
theorem fAtoms_noFix {L Lc Lc' : Leaves} : ∀ {ps : List Pat}, allP noFixP ps = true → fAtoms L Lc ps = fAtoms L Lc' ps
  | [], _ => rfl
  | p :: r, h => by
    simp only [allP, Bool.and_eq_true] at h
    rw [fAtoms, fAtoms, fAtom_noFix h.1, fAtoms_noFix h.2]
theorem fTup_noFix {L Lc Lc' : Leaves} : ∀ {ps : List (Bool × List Pat)}, allT noFixP ps = true → fTup L Lc ps = fTup L Lc' ps
  | [], _ => rfl
  | (g, p) :: r, h => by
    simp only [allT, Bool.and_eq_true] at h
    rw [fTup, fTup, fAtoms_noFix h.1, fTup_noFix h.2]
theorem fAV_noFix {L Lc Lc' : Leaves} {p : VPat} (h : allV noFixP p = true) : fAV L Lc p = fAV L Lc' p := by
  cases p with
  | «at» p => rw [fAV, fAV, fAtom_noFix h]
  | agg ps => rw [fAV, fAV, fAtoms_noFix h]
  | tup ps => rw [fAV, fAV, fTup_noFix h]
theorem fHeap_noFix {L Lc Lc' : Leaves} {H0 : Heap} : ∀ {bs : List (Nat × BPat)}, allB noFixP bs = true → noFixB bs = true → fHeap L Lc H0 bs = fHeap L Lc' H0 bs
  | [], _, _ => rfl
  | (t, p) :: r, h, h' => by
    cases p with
    | cells wd ps =>
      simp only [allB, Bool.and_eq_true] at h
      rw [fHeap, fHeap, fHeap_noFix h.2 h', fBlk, fBlk, fAtoms_noFix h.1]
    | ints g k i => have ih := fHeap_noFix (L := L) (Lc := Lc) (Lc' := Lc') (H0 := H0) (bs := r) h h'; simp only [fHeap, ih]; rfl
    | recs g T i => have ih := fHeap_noFix (L := L) (Lc := Lc) (Lc' := Lc') (H0 := H0) (bs := r) h h'; simp only [fHeap, ih]; rfl
    | dead => have ih := fHeap_noFix (L := L) (Lc := Lc) (Lc' := Lc') (H0 := H0) (bs := r) h h'; simp only [fHeap, ih]; rfl
    | fints g k i => simp [noFixB] at h'
    | frecs g T i => simp [noFixB] at h'
    | fhole k i hi t => simp [noFixB] at h'
theorem fAtom_RT {RT' : RoTab} {L Lc : Leaves} {p : Pat} {u : Value} (hp : plainP p = true) (h : R RT E (fAtom L Lc p) u) : R RT' E (fAtom L Lc p) u := by
  cases p with
  | unk => exact .unk u
  | bool i => rw [R.bool_inv h]; exact .bool _
  | int k i => rw [R.int_inv h]; exact .int _ _
  | fbool i => rw [R.bool_inv h]; exact .bool _
  | fint k i => rw [R.int_inv h]; exact .int _ _
  | roi k i => simp only [fAtom] at h ⊢; cases h with | roi hc hx => exact .roi hc hx
  | froi k i => simp only [fAtom] at h ⊢; cases h with | roi hc hx => exact .roi hc hx
  | nilp => simp only [fAtom] at h ⊢; cases h; exact .nilp
  | nils => simp only [fAtom] at h ⊢; cases h; exact .nils
  | ptr t off => simp only [fAtom] at h ⊢; cases h with | ptr h => exact .ptr h
  | full t nn => simp only [fAtom] at h ⊢; cases h with | full h hb hn hc hg => exact .full h hb hn hc hg
  | ror tag => simp [plainP] at hp
  | fn f => simp only [fAtom] at h ⊢; cases h with | fn hn hr => exact .fn hn fun j x hj => by simp at hj
  | ifp ty t off => simp only [fAtom] at h ⊢; cases h with | ifa hr => cases hr with | ptr h => exact .ifa (.ptr h)
  | fsub t h1 h2 => simp only [fAtom] at h ⊢; cases h with | sub h hw hl hc hb => exact .sub h hw hl hc hb
  | clo f ts =>
    simp only [fAtom] at h ⊢
    cases h with
    | fn hn hr =>
      refine R.fn hn fun j x hj => ?_
      obtain ⟨q, hts, rfl⟩ := cloA_get hj
      obtain ⟨I, hI, hu⟩ := R.ptr_inv (hr j _ hj)
      rw [hu]
      exact R.ptr hI
theorem fAtoms_RT {RT' : RoTab} {L Lc : Leaves} {ps : List Pat} {vs : Array Value} (hp : allP plainP ps = true) (h : RCs RT E (fAtoms L Lc ps) vs) : RCs RT' E (fAtoms L Lc ps) vs := by
  refine ⟨h.1, fun j x hj => ?_⟩
  have := h.2 j x hj
  rw [fAtoms_eq, List.getElem?_map] at hj
  cases hq : ps[j]? with
  | none => simp [hq] at hj
  | some p =>
    simp [hq] at hj
    subst hj
    exact fAtom_RT (allP_get hp (List.mem_of_getElem? hq)) this
theorem allT_get {f : Pat → Bool} : ∀ {ps : List (Bool × List Pat)} {p : Bool × List Pat}, allT f ps = true → p ∈ ps → allP f p.2 = true
  | [], p, _, h => by simp at h
  | (g, q) :: r, p, h, hm => by
    simp only [allT, Bool.and_eq_true] at h
    rcases List.mem_cons.1 hm with rfl | hm
    · exact h.1
    · exact allT_get h.2 hm
theorem fTup_eq (L Lc : Leaves) : ∀ ps : List (Bool × List Pat), fTup L Lc ps = ps.map fun p => (p.1, fAtoms L Lc p.2)
  | [] => rfl
  | (g, q) :: r => by simp [fTup, fTup_eq L Lc r]
theorem fAV_RT {RT' : RoTab} {L Lc : Leaves} {p : VPat} {u : Value} (hp : allV plainP p = true) (h : RV RT E (fAV L Lc p) u) : RV RT' E (fAV L Lc p) u := by
  cases p with
  | «at» p => exact fAtom_RT (p := p) hp h
  | agg ps => obtain ⟨vs, rfl, hc⟩ := h; exact ⟨vs, rfl, fAtoms_RT hp hc⟩
  | tup ps =>
    obtain ⟨vs, rfl, hn, hc⟩ := h
    refine ⟨vs, rfl, hn, fun j q hj => ?_⟩
    have := hc j q hj
    rw [fTup_eq, List.getElem?_map] at hj
    cases hq : ps[j]? with
    | none => simp [hq] at hj
    | some p =>
      simp [hq] at hj
      subst hj
      obtain ⟨g, ps'⟩ := p
      have hpl := allT_get hp (List.mem_of_getElem? hq)
      simp only at this hpl ⊢
      cases g with
      | true => obtain ⟨vs', he, hc'⟩ := this; exact ⟨vs', he, fAtoms_RT hpl hc'⟩
      | false =>
        match ps', this, hpl with
        | [p1], this, hpl =>
          simp only [allP, Bool.and_eq_true] at hpl
          exact fAtom_RT (p := p1) hpl.1 this
theorem fBlk_RT {RT' : RoTab} {L Lc : Leaves} {p : BPat} {b : Blk} {I : Info} {f : Nat × Nat → Prop} (hp : ∀ wd ps, p = .cells wd ps → allP plainP ps = true) (hb : fBlk L Lc p = some b) (h : BlkOK RT E b I f w) :
    BlkOK RT' E b I f w where
  own := h.own
  cap := h.cap
  live := h.live
  kind := by
    have hk := h.kind
    cases p with
    | cells wd ps =>
      simp only [fBlk, Option.some.injEq] at hb
      subst hb
      refine ⟨hk.1, hk.2.1, hk.2.2.1, fun j x hj => ?_⟩
      obtain ⟨v, hv, hr⟩ := hk.2.2.2 j x hj
      refine ⟨v, hv, ?_⟩
      rw [fAtoms_eq, List.getElem?_map] at hj
      cases hq : ps[j]? with
      | none => simp [hq] at hj
      | some p =>
        simp [hq] at hj
        subst hj
        exact fAtom_RT (allP_get (hp _ _ rfl) (List.mem_of_getElem? hq)) hr
    | ints g k i => simp only [fBlk, Option.some.injEq] at hb; subst hb; exact hk
    | fints g k i => simp only [fBlk, Option.some.injEq] at hb; subst hb; exact hk
    | recs g T i =>
      simp only [fBlk, Option.some.injEq] at hb; subst hb
      exact ⟨hk.1, hk.2.1, hk.2.2.1, fun i j x hi hj => let ⟨v, hv, hr⟩ := hk.2.2.2 i j x hi hj; ⟨v, hv, recA_R hj (fun _ _ h => h) hr⟩⟩
    | frecs g T i =>
      simp only [fBlk, Option.some.injEq] at hb; subst hb
      exact ⟨hk.1, hk.2.1, hk.2.2.1, fun i j x hi hj => let ⟨v, hv, hr⟩ := hk.2.2.2 i j x hi hj; ⟨v, hv, recA_R hj (fun _ _ h => h) hr⟩⟩
    | fhole k i hi t =>
      simp only [fBlk, Option.some.injEq] at hb; subst hb
      refine ⟨hk.1, hk.2.1, fun i hi => ?_⟩
      obtain ⟨v, hv, hr⟩ := hk.2.2 i hi
      refine ⟨v, hv, ?_⟩
      split at hr
      · rename_i he; rw [if_pos he]; cases hr with | full h hb hn hc hg => exact .full h hb hn hc hg
      · rename_i he; rw [if_neg he]; exact roi_R (fun _ _ h => h) hr
    | dead => simp [fBlk] at hb
theorem allB_get {f : Pat → Bool} : ∀ {bs : List (Nat × BPat)} {q : Nat × BPat} {wd : Nat} {ps : List Pat}, allB f bs = true → q ∈ bs → q.2 = .cells wd ps → allP f ps = true
  | [], q, _, _, _, h, _ => by simp at h
  | (t, p) :: r, q, wd, ps, h, hm, he => by
    rcases List.mem_cons.1 hm with rfl | hm
    · simp only at he
      subst he
      simp only [allB, Bool.and_eq_true] at h
      exact h.1
    · refine allB_get (bs := r) ?_ hm he
      cases p <;> simp only [allB, Bool.and_eq_true] at h <;> first | exact h.2 | exact h
theorem Sim.anyRT {RT' : RoTab} {L Lc : Leaves} {bs : List (Nat × BPat)} (hp : allB plainP bs = true) (hs : Sim RT E (fHeap L Lc noHeap bs) fp w) : Sim RT' E (fHeap L Lc noHeap bs) fp w where
  blk := fun t b hb => by
    obtain ⟨I, hI, ok⟩ := hs.blk t b hb
    rcases fHeap_get L Lc noHeap hb with ⟨q, hq, _, h2⟩ | ⟨h1, _⟩
    · exact ⟨I, hI, fBlk_RT (fun wd ps he => allB_get hp hq he) h2 ok⟩
    · simp [noHeap] at h1
  disj := hs.disj
  ro := hs.ro
def noRT : RoTab := fun _ => none
structure CallOK (P : Program) (f : FuncId) (s : Spec) : Prop where
  ok : specOk s = true
  cps : ∀ (N : Nat) (L : Leaves) (Y : Type) (k : Leaves → Option Y), s.run N L k = obind (s.run N L some) k
  calls : ∀ (N : Nat) (L L' : Leaves) (E : Env) (fp : Fp) (w : World) (args : Array Value), s.run N L some = some L' → Sim noRT E (fHeap L L noHeap s.pre) fp w →
    All2 (RV noRT E) (fAVs L L s.args) args.toList → Fresh E s.n →
    Calls P f args w fun e w' => ∃ E' fp' u, e = .returned u ∧ RV noRT E' (fAV L' L s.ret) u ∧ Sim noRT E' (fHeap L' L noHeap s.post) fp' w' ∧
      Frm w (OwnAll (fHeap L L noHeap s.pre) fp) w' ∧ (∀ x, OwnAll (fHeap L' L noHeap s.post) fp' x → x.1 < w.heap.size → OwnAll (fHeap L L noHeap s.pre) fp x) ∧
      (∀ t, t < s.n → t ∈ idsLive s.post → E'.info t = E.info t) ∧ (∀ a v, E.M a = some v → E'.M a = some v) ∧ MExt E (fHeap L L noHeap s.pre) fp w E'
def tgt (σ : List View) (n nx t : Nat) : Option Nat :=
  match Nat.blt t n with
  | true => match nth σ t with
    | some (.whole id) => some id
    | some (.part id _ _) => some id
    | _ => none
  | false => some (nx + (t - n))
def partB (lo n : Nat) : Option Blk → Option Blk → Option Blk
  | some (.ints g kd xs), some (.ints _ kd' ys) => match eqK kd kd' with
    | true => some (.ints g kd (xs.take lo ++ (ys ++ xs.drop (lo + n))))
    | false => none
  | _, _ => none
def postAt (ro : Bool) (ρ : Nat → Option Nat) (σ : List View) (n t : Nat) (b o : Option Blk) : Option Blk :=
  match Nat.blt t n with
  | true => match nth σ t with
    | some (.part _ lo m) => partB lo m o b
    | _ => renBlk ro ρ b
  | false => renBlk ro ρ b
theorem postBlk_eq {ro : Bool} {ρ : Nat → Option Nat} {σ : List View} {n nx t : Nat} {b : Option Blk} : postBlk ro ρ σ n nx t b H = match tgt σ n nx t with
    | some id => putH H id (postAt ro ρ σ n t b (H id))
    | none => H := by
  unfold postBlk tgt postAt
  cases h : Nat.blt t n with
  | false => rfl
  | true =>
    simp only
    cases hv : nth σ t with
    | none => rfl
    | some v =>
      cases v with
      | none => rfl
      | empty => rfl
      | whole id => rfl
      | part id lo m =>
        simp only
        cases ho : H id with
        | none => rfl
        | some o =>
          cases o with
          | ints g kd xs =>
            cases b with
            | none => rfl
            | some b => cases b <;> rfl
          | _ => rfl
theorem postBlk_other {ro : Bool} {ρ : Nat → Option Nat} {σ : List View} {n nx t id : Nat} {b : Option Blk} (h : tgt σ n nx t ≠ some id) : postBlk ro ρ σ n nx t b H id = H id := by
  rw [postBlk_eq]
  split
  · rename_i i hi
    exact putH_other fun he => h (by rw [he, hi])
  · rfl
theorem postBlk_same {ro : Bool} {ρ : Nat → Option Nat} {σ : List View} {n nx t id : Nat} {b : Option Blk} (h : tgt σ n nx t = some id) : postBlk ro ρ σ n nx t b H id = postAt ro ρ σ n t b (H id) := by
  rw [postBlk_eq, h]
  simp only [putH_same]
theorem distinct_cons {t : Nat} {l : List Nat} (h : distinct (t :: l) = true) : t ∉ l ∧ distinct l = true := by
  simp only [distinct, Bool.and_eq_true, Bool.not_eq_true'] at h
  refine ⟨fun hm => ?_, h.2⟩
  rw [mem_iff.2 hm] at h
  simp at h
theorem ids_mem : ∀ {l : List (Nat × BPat)} {t : Nat}, t ∈ ids l ↔ ∃ p, (t, p) ∈ l
  | [], t => by simp [ids]
  | (t', p') :: r, t => by
    simp only [ids, List.mem_cons, ids_mem (l := r)]
    constructor
    · rintro (rfl | ⟨p, hp⟩)
      · exact ⟨p', Or.inl rfl⟩
      · exact ⟨p, Or.inr hp⟩
    · rintro ⟨p, hp | hp⟩
      · simp only [Prod.mk.injEq] at hp; exact Or.inl hp.1
      · exact Or.inr ⟨p, hp⟩
theorem postBlks_get (H : Heap) {ro : Bool} {ρ : Nat → Option Nat} {σ : List View} {n nx : Nat} {L Lc : Leaves} (hinj : ∀ t t' id, tgt σ n nx t = some id → tgt σ n nx t' = some id → t = t') :
    ∀ {ps : List (Nat × BPat)} {id : Nat}, distinct (ids ps) = true →
      (∃ t p, (t, p) ∈ ps ∧ tgt σ n nx t = some id ∧ postBlks ro ρ σ n nx L Lc ps H id = postAt ro ρ σ n t (fBlk L Lc p) (H id)) ∨
      ((∀ t p, (t, p) ∈ ps → tgt σ n nx t ≠ some id) ∧ postBlks ro ρ σ n nx L Lc ps H id = H id)
  | [], id, _ => Or.inr ⟨fun t p h => by simp at h, rfl⟩
  | (t, p) :: ps, id, hd => by
    obtain ⟨hn, hd'⟩ := distinct_cons (t := t) (l := ids ps) hd
    have ih := postBlks_get H (ro := ro) (ρ := ρ) (L := L) (Lc := Lc) hinj (ps := ps) (id := id) hd'
    simp only [postBlks]
    by_cases ht : tgt σ n nx t = some id
    · refine Or.inl ⟨t, p, by simp, ht, ?_⟩
      rw [postBlk_same ht]
      rcases ih with ⟨t', p', hm, ht', _⟩ | ⟨_, h⟩
      · have := hinj _ _ _ ht ht'
        subst this
        exact absurd (ids_mem.2 ⟨p', hm⟩) hn
      · rw [h]
    · rw [postBlk_other ht]
      rcases ih with ⟨t', p', hm, ht', h⟩ | ⟨h1, h2⟩
      · exact Or.inl ⟨t', p', by simp [hm], ht', h⟩
      · refine Or.inr ⟨fun t' p' hm => ?_, h2⟩
        rcases List.mem_cons.1 hm with he | hm
        · simp only [Prod.mk.injEq] at he; rw [he.1]; exact ht
        · exact h1 t' p' hm
theorem idsLive_mem : ∀ {l : List (Nat × BPat)} {t : Nat} {p : BPat}, (t, p) ∈ l → p ≠ .dead → t ∈ idsLive l
  | [], t, p, h, _ => by simp at h
  | (t', p') :: r, t, p, h, hd => by
    rcases List.mem_cons.1 h with he | hm
    · simp only [Prod.mk.injEq] at he
      obtain ⟨rfl, rfl⟩ := he
      cases p <;> simp [idsLive] at hd ⊢
    · have := idsLive_mem hm hd
      cases p' <;> simp [idsLive, this]
theorem below_mem {n : Nat} : ∀ {l : List (Nat × BPat)} {t : Nat} {p : BPat}, below n l = true → (t, p) ∈ l → t < n
  | [], t, p, _, h => by simp at h
  | (t', p') :: r, t, p, h, hm => by
    simp only [below, Bool.and_eq_true] at h
    rcases List.mem_cons.1 hm with he | hm
    · simp only [Prod.mk.injEq] at he
      rw [he.1]
      simpa [Nat.blt, Nat.succ_le_iff] using h.1
    · exact below_mem h.2 hm
theorem upTo_mem {l : List Nat} : ∀ {n t : Nat}, upTo l n = true → t < n → t ∈ l
  | 0, t, _, h => by omega
  | n + 1, t, h, hlt => by
    simp only [upTo, Bool.and_eq_true] at h
    by_cases ht : t = n
    · subst ht; exact mem_iff.1 h.1
    · exact upTo_mem h.2 (by omega)
theorem idsLive_get : ∀ {l : List (Nat × BPat)} {t : Nat}, t ∈ idsLive l → ∃ p, (t, p) ∈ l ∧ p ≠ .dead
  | [], t, h => by simp [idsLive] at h
  | (t', p') :: r, t, h => by
    cases p' with
    | dead =>
      obtain ⟨p, hp, hd⟩ := idsLive_get (l := r) (by simpa [idsLive] using h)
      exact ⟨p, by simp [hp], hd⟩
    | _ =>
      simp only [idsLive, List.mem_cons] at h
      rcases h with rfl | h
      · exact ⟨_, List.mem_cons_self .., fun h => by cases h⟩
      · obtain ⟨p, hp, hd⟩ := idsLive_get (l := r) h
        exact ⟨p, by simp [hp], hd⟩
theorem fHeap_live {L Lc : Leaves} : ∀ {l : List (Nat × BPat)} {t : Nat} {p : BPat}, distinct (ids l) = true → (t, p) ∈ l → fHeap L Lc noHeap l t = fBlk L Lc p
  | [], t, p, _, h => by simp at h
  | (t', p') :: r, t, p, hd, h => by
    obtain ⟨hn, hd'⟩ := distinct_cons (t := t') (l := ids r) hd
    simp only [fHeap]
    rcases List.mem_cons.1 h with he | hm
    · simp only [Prod.mk.injEq] at he
      obtain ⟨rfl, rfl⟩ := he
      rw [putH_same]
    · have hne : t ≠ t' := fun he => hn (ids_mem.2 ⟨p, he ▸ hm⟩)
      rw [putH_other hne]
      exact fHeap_live hd' hm
theorem fBlk_live {L Lc : Leaves} {p : BPat} : p ≠ .dead ↔ ∃ b, fBlk L Lc p = some b := by
  cases p <;> simp [fBlk]
theorem nones_length : ∀ n, (nones n).length = n
  | 0 => rfl
  | n + 1 => by simp [nones, nones_length n]
theorem partsIn_some {k : Option Y} : ∀ {vs : List View}, partsIn H vs k = some y →
    k = some y ∧ ∀ (t id lo n : Nat) g kd xs, vs[t]? = some (.part id lo n) → H id = some (.ints g kd xs) → lo + n ≤ xs.length
  | [], h => ⟨h, fun t id lo n g kd xs hv _ => by simp at hv⟩
  | v :: vs, h => by
    cases v with
    | part id lo n =>
      simp only [partsIn] at h
      split at h
      · rename_i g kd xs hb
        rw [chk_some] at h
        obtain ⟨h1, h2⟩ := partsIn_some h.2
        refine ⟨h1, fun t id' lo' n' g' kd' xs' hv hb' => ?_⟩
        cases t with
        | zero =>
          simp at hv
          obtain ⟨rfl, rfl, rfl⟩ := hv
          rw [hb] at hb'
          simp only [Option.some.injEq, Blk.ints.injEq] at hb'
          rw [← hb'.2.2]; exact h.1
        | succ t => simp at hv; exact h2 t _ _ _ _ _ _ hv hb'
      · simp at h
    | _ =>
      simp only [partsIn] at h
      obtain ⟨h1, h2⟩ := partsIn_some h
      refine ⟨h1, fun t id' lo' n' g' kd' xs' hv hb' => ?_⟩
      cases t with
      | zero => simp at hv
      | succ t => simp at hv; exact h2 t _ _ _ _ _ _ hv hb'
theorem ren_R {RT' : RoTab} {E' : Env} {ro : Bool} {ρ : Nat → Option Nat} {x : Atom} {u : Value} (hρ : ∀ t id I, ρ t = some id → E.info t = some I → E'.info id = some I) (hro : ro = true → ∀ a v, E.M a = some v → E'.M a = some v)
    (h : R RT' E x u) (hx : ∀ tag, x ≠ .ror tag) : R RT E' (renAtom ro ρ x) u := by
  cases h with
  | unk => exact .unk _
  | bool b => exact .bool b
  | int k n => exact .int k n
  | str s => exact .unk _
  | nilp => exact .nilp
  | ptr h =>
    simp only [renAtom]
    split
    · rename_i id hid; exact .ptr (hρ _ _ _ hid h)
    · exact .unk _
  | eptr h hi hj => exact .unk _
  | nils => exact .unk _
  | full h hb hn hc hg =>
    simp only [renAtom]
    split
    · rename_i id hid; exact .full (hρ _ _ _ hid h) hb hn hc hg
    · exact .unk _
  | sub => exact .unk _
  | roi hc hq =>
    cases ro with
    | false => exact .unk _
    | true => exact .roi hc fun i hi => let ⟨a, hb, hs, hm⟩ := hq i hi; ⟨a, hb, hs, hro rfl _ _ hm⟩
  | ror => exact absurd rfl (hx _)
  | rop => exact .unk _
  | @fn f cap vs hn hr =>
    cases f with
    | func f =>
      cases cap with
      | nil => exact .fn hn fun j x hj => by simp at hj
      | cons c cs => exact .unk _
    | _ => exact .unk _
  | nilf => exact .unk _
  | nili => exact .unk _
  | und => exact .unk _
  | @ifa t x v hr =>
    cases hr with
    | ptr h =>
      simp only [renAtom]
      split
      · rename_i id hid; exact .ifa (.ptr (hρ _ _ _ hid h))
      · exact .unk _
    | _ => exact .unk _
  | ifg hn hr => simp only [renAtom]; exact .unk _
theorem fAtom_ror {L Lc : Leaves} {p : Pat} (hp : plainP p = true) : ∀ tag, fAtom L Lc p ≠ .ror tag := by
  intro tag
  cases p <;> simp [fAtom, plainP] at hp ⊢
theorem renAtoms_eq (ro : Bool) (ρ : Nat → Option Nat) : ∀ as : List Atom, renAtoms ro ρ as = as.map (renAtom ro ρ)
  | [] => rfl
  | p :: ps => by simp [renAtoms, renAtoms_eq ro ρ ps]
theorem ren_RCs {RT' : RoTab} {E' : Env} {ro : Bool} {ρ : Nat → Option Nat} {L Lc : Leaves} {ps : List Pat} {vs : Array Value} (hρ : ∀ t id I, ρ t = some id → E.info t = some I → E'.info id = some I) (hro : ro = true → ∀ a v, E.M a = some v → E'.M a = some v)
    (hp : allP plainP ps = true) (h : RCs RT' E (fAtoms L Lc ps) vs) : RCs RT E' (renAtoms ro ρ (fAtoms L Lc ps)) vs := by
  rw [renAtoms_eq]
  refine ⟨by rw [h.1]; simp, fun j x hj => ?_⟩
  rw [List.getElem?_map] at hj
  cases hq : (fAtoms L Lc ps)[j]? with
  | none => simp [hq] at hj
  | some x' =>
    simp [hq] at hj
    subst hj
    refine ren_R hρ hro (h.2 j x' hq) ?_
    rw [fAtoms_eq, List.getElem?_map] at hq
    cases hq' : ps[j]? with
    | none => simp [hq'] at hq
    | some p =>
      simp [hq'] at hq
      subst hq
      exact fAtom_ror (allP_get hp (List.mem_of_getElem? hq'))
theorem renTup_eq (ro : Bool) (ρ : Nat → Option Nat) : ∀ as : List (Bool × List Atom), renTup ro ρ as = as.map fun p => (p.1, renAtoms ro ρ p.2)
  | [] => rfl
  | (g, p) :: ps => by simp [renTup, renTup_eq ro ρ ps]
theorem ren_RV {RT' : RoTab} {E' : Env} {ro : Bool} {ρ : Nat → Option Nat} {L Lc : Leaves} {p : VPat} {u : Value} (hρ : ∀ t id I, ρ t = some id → E.info t = some I → E'.info id = some I) (hro : ro = true → ∀ a v, E.M a = some v → E'.M a = some v)
    (hp : allV plainP p = true) (h : RV RT' E (fAV L Lc p) u) : RV RT E' (renAV ro ρ (fAV L Lc p)) u := by
  cases p with
  | «at» p => exact ren_R (x := fAtom L Lc p) hρ hro h (fAtom_ror hp)
  | agg ps => obtain ⟨vs, rfl, hc⟩ := h; exact ⟨vs, rfl, ren_RCs hρ hro hp hc⟩
  | tup ps =>
    obtain ⟨vs, rfl, hn, hc⟩ := h
    refine ⟨vs, rfl, by rw [hn, renTup_eq]; simp, fun j q hj => ?_⟩
    rw [renTup_eq, List.getElem?_map] at hj
    cases hq : (fTup L Lc ps)[j]? with
    | none => simp [hq] at hj
    | some q' =>
      simp [hq] at hj
      subst hj
      have := hc j q' hq
      rw [fTup_eq, List.getElem?_map] at hq
      cases hq' : ps[j]? with
      | none => simp [hq'] at hq
      | some p =>
        simp [hq'] at hq
        subst hq
        obtain ⟨g, ps'⟩ := p
        have hpl := allT_get hp (List.mem_of_getElem? hq')
        simp only at this hpl ⊢
        cases g with
        | true => obtain ⟨vs', he, hc'⟩ := this; exact ⟨vs', he, ren_RCs hρ hro hpl hc'⟩
        | false =>
          match ps', this, hpl with
          | [p1], this, hpl =>
            simp only [allP, Bool.and_eq_true] at hpl
            exact ren_R (x := fAtom L Lc p1) hρ hro this (fAtom_ror hpl.1)
theorem blt_iff {a b : Nat} : Nat.blt a b = true ↔ a < b := by simp [Nat.blt, Nat.succ_le_iff]
theorem tgt_old {σ : List View} {n nx t : Nat} (h : t < n) : tgt σ n nx t = match σ[t]? with | some v => viewId v | none => none := by
  unfold tgt
  rw [blt_iff.2 h]
  simp only [nth_eq]
  cases σ[t]? with
  | none => rfl
  | some v => cases v <;> rfl
theorem tgt_new {σ : List View} {n nx t : Nat} (h : n ≤ t) : tgt σ n nx t = some (nx + (t - n)) := by
  unfold tgt
  have : Nat.blt t n = false := by
    cases hb : Nat.blt t n with
    | false => rfl
    | true => have := blt_iff.1 hb; omega
  rw [this]
theorem All2.map {α β γ : Type} {r : α → β → Prop} {q : γ → β → Prop} {f : α → γ} : ∀ {as : List α} {bs : List β}, All2 r as bs → (∀ x ∈ as, ∀ z, r x z → q (f x) z) → All2 q (as.map f) bs
  | _, _, .nil, _ => .nil
  | _, _, .cons h hs, hk => .cons (hk _ (by simp) _ h) (hs.map fun x hx z hr => hk x (by simp [hx]) z hr)
theorem fAVs_eq (L Lc : Leaves) : ∀ ps : List VPat, fAVs L Lc ps = ps.map (fAV L Lc)
  | [] => rfl
  | p :: ps => by simp [fAVs, fAVs_eq L Lc ps]
theorem allVs_get {f : Pat → Bool} : ∀ {ps : List VPat} {p : VPat}, allVs f ps = true → p ∈ ps → allV f p = true
  | [], p, _, h => by simp at h
  | q :: r, p, h, hm => by
    simp only [allVs, Bool.and_eq_true] at h
    rcases List.mem_cons.1 hm with rfl | hm
    · exact h.1
    · exact allVs_get h.2 hm
theorem All2.comp {α β γ : Type} {r : α → β → Prop} {s : β → γ → Prop} {q : α → γ → Prop} (h : ∀ x z u, r x z → s z u → q x u) :
    ∀ {as : List α} {bs : List β} {cs : List γ}, All2 r as bs → All2 s bs cs → All2 q as cs
  | _, _, _, .nil, .nil => .nil
  | _, _, _, .cons h1 hs, .cons h2 ht => .cons (h _ _ _ h1 h2) (hs.comp h ht)
end Go.Eng
/-
  The engine, part eight: a call by its callee's contract.
  Conditions: none; nothing is claimed of the program here.
-/
namespace Go.Eng
variable {RT : RoTab} {E : Env} {F : Fr} {a : Act} {H : Heap} {fp : Fp} {w : World} {P : Program} {Y : Type} {y : Y}
theorem matchB_view {L Lc : Leaves} {σ : List View} {lent : List Nat} {p : BPat} {v : View} (h : MatchB H L Lc σ lent p v) :
    v = .empty ∨ ∃ id b, viewId v = some id ∧ H id = some b := by
  unfold MatchB at h
  split at h
  · obtain ⟨cs, hb, _⟩ := h; exact Or.inr ⟨_, _, rfl, hb⟩
  · obtain ⟨cs, hb, _⟩ := h; exact Or.inr ⟨_, _, rfl, hb⟩
  · obtain ⟨cs, hb, _⟩ := h; exact Or.inr ⟨_, _, rfl, hb⟩
  · obtain ⟨_, g', xs, hb, _⟩ := h; exact Or.inr ⟨_, _, rfl, hb⟩
  · obtain ⟨_, g', xs, hb, _⟩ := h; exact Or.inr ⟨_, _, rfl, hb⟩
  · exact Or.inl rfl
  · exact Or.inl rfl
  · rcases h with ⟨g', hb, _⟩ | ⟨_, kd, xss, i, b, gb, ys, _, hb, _⟩ <;> exact Or.inr ⟨_, _, rfl, hb⟩
  · obtain ⟨cs, hb, _⟩ := h; exact Or.inr ⟨_, _, rfl, hb⟩
  · obtain ⟨cs, hb, _⟩ := h; exact Or.inr ⟨_, _, rfl, hb⟩
  · exact h.elim
theorem base_own {L Lc : Leaves} {σ : List View} {lent : List Nat} {blks : List (Nat × BPat)} (hs : Sim RT E H fp w)
    (hm : ∀ q ∈ blks, q.2 = .dead ∨ ∃ v, σ[q.1]? = some v ∧ MatchB H L Lc σ lent q.2 v)
    (hp : ∀ (t id lo n : Nat) g kd xs, σ[t]? = some (.part id lo n) → H id = some (.ints g kd xs) → lo + n ≤ xs.length) {x : Nat × Nat} {t : Nat} {b : Blk}
    (hb : fHeap L Lc noHeap blks t = some b) (hx : baseFp E fp σ t x) : ∃ v id b', σ[t]? = some v ∧ viewId v = some id ∧ H id = some b' ∧ fp id x := by
  rcases fHeap_get L Lc noHeap hb with ⟨q, hq, rfl, h2⟩ | ⟨h1, _⟩
  · rcases hm q hq with hd | ⟨v, h3, h4⟩
    · rw [hd] at h2; simp [fBlk] at h2
    · simp only [baseFp, h3] at hx
      obtain ⟨id, b', g1, g2, g3⟩ := viewFp_sub hs h4 (fun id lo n g kd xs he hb' => by subst he; exact hp _ _ _ _ _ _ _ h3 hb') hx
      exact ⟨v, id, b', h3, g1, g2, g3⟩
  · simp [noHeap] at h1
theorem renBlk_some {ro : Bool} {ρ : Nat → Option Nat} {b : Blk} {o : Option Blk} (h : renBlk ro ρ o = some b) : ∃ b', o = some b' := by
  cases o with
  | none => simp [renBlk] at h
  | some b' => exact ⟨b', rfl⟩
theorem partB_some {lo n : Nat} {o b : Option Blk} {c : Blk} (h : partB lo n o b = some c) :
    ∃ g kd xs g' ys, o = some (.ints g kd xs) ∧ b = some (.ints g' kd ys) ∧ c = .ints g kd (xs.take lo ++ (ys ++ xs.drop (lo + n))) := by
  cases o with
  | none => simp [partB] at h
  | some bo =>
    cases b with
    | none => cases bo <;> simp [partB] at h
    | some bb =>
      cases bo with
      | ints g kd xs =>
        cases bb with
        | ints g' kd' ys =>
          simp only [partB] at h
          split at h
          · rename_i he
            have := eqK_iff.1 he
            subst this
            simp only [Option.some.injEq] at h
            exact ⟨g, kd, xs, g', ys, rfl, rfl, h.symm⟩
          · simp at h
        | _ => simp [partB] at h
      | _ => simp [partB] at h
theorem renBlk_ok {RT' : RoTab} {E' : Env} {ro : Bool} {ρ : Nat → Option Nat} {L Lc : Leaves} {p : BPat} {b b' : Blk} {I : Info} {f : Nat × Nat → Prop}
    (hρ : ∀ t id I, ρ t = some id → E.info t = some I → E'.info id = some I) (hro : ro = true → ∀ a v, E.M a = some v → E'.M a = some v) (hp : ∀ wd ps, p = .cells wd ps → allP plainP ps = true) (hb : fBlk L Lc p = some b)
    (hr : renBlk ro ρ (some b) = some b') (ok : BlkOK RT' E b I f w) : BlkOK RT E' b' I f w where
  own := ok.own
  cap := ok.cap
  live := ok.live
  kind := by
    have hk := ok.kind
    cases p with
    | cells wd ps =>
      simp only [fBlk, Option.some.injEq] at hb
      subst hb
      simp only [renBlk, Option.some.injEq] at hr
      subst hr
      refine ⟨hk.1, by rw [hk.2.1, renAtoms_eq]; simp, hk.2.2.1, fun j x hj => ?_⟩
      rw [renAtoms_eq, List.getElem?_map] at hj
      cases hq : (fAtoms L Lc ps)[j]? with
      | none => simp [hq] at hj
      | some x' =>
        simp [hq] at hj
        subst hj
        obtain ⟨v, hv, hr⟩ := hk.2.2.2 j x' hq
        refine ⟨v, hv, ren_R hρ hro hr ?_⟩
        rw [fAtoms_eq, List.getElem?_map] at hq
        cases hq' : ps[j]? with
        | none => simp [hq'] at hq
        | some p =>
          simp [hq'] at hq
          subst hq
          exact fAtom_ror (allP_get (hp _ _ rfl) (List.mem_of_getElem? hq'))
    | ints g k i => simp only [fBlk, Option.some.injEq] at hb; subst hb; simp only [renBlk, Option.some.injEq] at hr; subst hr; exact hk
    | fints g k i => simp only [fBlk, Option.some.injEq] at hb; subst hb; simp only [renBlk, Option.some.injEq] at hr; subst hr; exact hk
    | recs g T i =>
      simp only [fBlk, Option.some.injEq] at hb; subst hb
      cases ro with
      | false => simp [renBlk] at hr
      | true =>
        simp only [renBlk, Option.some.injEq] at hr; subst hr
        exact ⟨hk.1, hk.2.1, hk.2.2.1, fun i j x hi hj => let ⟨v, hv, hr⟩ := hk.2.2.2 i j x hi hj; ⟨v, hv, recA_R hj (hro rfl) hr⟩⟩
    | frecs g T i =>
      simp only [fBlk, Option.some.injEq] at hb; subst hb
      cases ro with
      | false => simp [renBlk] at hr
      | true =>
        simp only [renBlk, Option.some.injEq] at hr; subst hr
        exact ⟨hk.1, hk.2.1, hk.2.2.1, fun i j x hi hj => let ⟨v, hv, hr⟩ := hk.2.2.2 i j x hi hj; ⟨v, hv, recA_R hj (hro rfl) hr⟩⟩
    | fhole k i hi t => simp only [fBlk, Option.some.injEq] at hb; subst hb; simp [renBlk] at hr
    | dead => simp [fBlk] at hb
theorem part_ok {O : Nat × Nat → Prop} {w' : World} {lo n : Nat} {g g' : Bool} {kd : IntKind} {xs ys : List Int} {I : Info} {f1 f : Nat × Nat → Prop} {RT' : RoTab} {E1 : Env}
    (hf : Frm w O w') (ok : BlkOK RT E (.ints g kd xs) I f w) (ok1 : BlkOK RT' E1 (.ints g' kd ys) ⟨I.cb, I.coff + lo, n, n, 1, false⟩ f1 w')
    (hl : lo + n ≤ xs.length) (hO : ∀ x, f x → O x → I.coff + lo ≤ x.2 ∧ x.2 < I.coff + lo + n) :
    BlkOK RT E (.ints g kd (xs.take lo ++ (ys ++ xs.drop (lo + n)))) I f w' := by
  obtain ⟨k1, k2, k3, k4⟩ := ok.kind
  obtain ⟨l1, l2, l3, l4⟩ := ok1.kind
  simp only at l1 l2 l4
  have hcap := ok.cap
  have hlen : (xs.take lo ++ (ys ++ xs.drop (lo + n))).length = xs.length := by simp; omega
  refine ⟨ok.own, ok.cap, fun x hx => ?_, k1, by rw [hlen]; exact k2, k3, fun j hj => ?_⟩
  · obtain ⟨v, hv, hfz⟩ := ok.live x hx
    obtain ⟨v', hv'⟩ := hf.live hv
    refine ⟨v', hv', ?_⟩
    rw [hf.frozen (a := ⟨x.1, x.2, none⟩) (by
      unfold World.cell? at hv
      split at hv
      · rename_i h; exact heap_lt h
      · simp at hv)]
    exact hfz
  · rw [hlen] at hj
    have hx : f (I.cb, I.coff + j) := (ok.own _).2 ⟨rfl, by simp, by simp only [k1]; split <;> omega⟩
    have keep : (j < lo ∨ lo + n ≤ j) → w'.cell? ⟨I.cb, I.coff + j, none⟩ = some (.int kd (xs.getD j 0)) := by
      intro hj'
      refine hf.cell (k4 j hj) fun ho => ?_
      obtain ⟨h1, h2⟩ := hO _ hx ho
      simp only at h1 h2
      omega
    rcases Nat.lt_or_ge j lo with h | h
    · rw [keep (Or.inl h)]
      congr 2
      simp only [List.getD_eq_getElem?_getD]
      rw [List.getElem?_append_left (by simp; omega), List.getElem?_take_of_lt h]
    · rcases Nat.lt_or_ge j (lo + n) with h' | h'
      · have := l4 (j - lo) (by omega)
        rw [show I.coff + lo + (j - lo) = I.coff + j by omega] at this
        rw [this]
        congr 2
        simp only [List.getD_eq_getElem?_getD]
        rw [List.getElem?_append_right (by simp; omega), List.getElem?_append_left (by simp; omega)]
        congr 2
        simp; omega
      · rw [keep (Or.inr h')]
        congr 2
        simp only [List.getD_eq_getElem?_getD]
        rw [List.getElem?_append_right (by simp; omega), List.getElem?_append_right (by simp; omega), List.getElem?_drop]
        congr 2
        simp; omega
theorem callSpec_sound {f : FuncId} {s : Spec} {N nx : Nat} {args : List AV} {cargs : Array Value} {k : AV → Heap → Nat → Option Y} (hok : CallOK P f s) (hRT : RTok RT)
    (hs : Sim RT E H fp w) (hf : Fresh E nx) (ha : All2 (RV RT E) args cargs.toList) (hk : callSpec N s args H nx k = some y) :
    Calls P f cargs w fun e w' => ∃ u E' H' fp' nx' v, e = .returned u ∧ k v H' nx' = some y ∧ RV RT E' v u ∧ Sim RT E' H' fp' w' ∧ Step E H fp w nx E' H' fp' w' nx' := by
  unfold callSpec at hk
  obtain ⟨m1, h1, e1, k1⟩ := mAVs_sound hk
  obtain ⟨m, h2, e2, k2⟩ := mBlks_sound h1
  rw [gate_some] at h2
  obtain ⟨hg, h3⟩ := h2
  simp only [Bool.and_eq_true] at hg
  obtain ⟨_, hva, hla⟩ := hg
  obtain ⟨h4, hparts⟩ := partsIn_some h3
  rw [hok.cps, obind_some] at h4
  obtain ⟨L', hrun, h5⟩ := h4
  have hspec := hok.ok
  unfold specOk at hspec
  simp only [Bool.and_eq_true] at hspec
  obtain ⟨q1, q2, q3, q4, q5, q6, q7, q8, q9, q10, q11, q12⟩ := hspec
  have hargs := k1 m e2
  have hblks := k2 m (.refl m)
  simp only [lcOf] at hargs hblks
  have hσ : m.σ.length = s.n := by rw [(e1.trans e2).σlen]; exact nones_length _
  have hbase := Sim.base hRT hs hblks hva hla hparts
  have hnf : fHeap m.leaves m.fixed noHeap s.pre = fHeap m.leaves m.leaves noHeap s.pre := fHeap_noFix q6 q7
  have hown0 : ∀ {x t b}, fHeap m.leaves m.leaves noHeap s.pre t = some b → baseFp E fp m.σ t x → ∃ v id b', m.σ[t]? = some v ∧ viewId v = some id ∧ H id = some b' ∧ fp id x := by
    intro x t b hb hx
    rw [← hnf] at hb
    exact base_own hs hblks hparts hb hx
  rw [hnf] at hbase
  have hb' := hbase.anyRT (RT' := noRT) q2
  have hargs' : All2 (RV noRT (baseE E H fp w m.σ m.lent)) (fAVs m.leaves m.leaves s.args) cargs.toList := by
    rw [fAVs_eq]
    have h := All2.comp (s := RV RT E) (q := fun p u => RV RT (baseE E H fp w m.σ m.lent) (fAV m.leaves m.fixed p) u) (fun p x u hm hx => matchV_RV hRT hs hm hx) hargs ha
    refine h.map fun p hp u hr => ?_
    rw [← fAV_noFix (Lc := m.fixed) (allVs_get q5 hp)]
    exact fAV_RT (allVs_get q1 hp) hr
  have hfc : Fresh (baseE E H fp w m.σ m.lent) s.n := fun id hid => by
    simp only [baseE]
    rw [List.getElem?_eq_none (by omega)]
  have hpre : ∀ t, t < s.n → ∃ v, m.σ[t]? = some v ∧ (v = .empty ∨ ∃ id b, viewId v = some id ∧ H id = some b) := by
    intro t ht
    obtain ⟨p, hp, hd⟩ := idsLive_get (upTo_mem q11 ht)
    rcases hblks _ hp with h | ⟨v, hv, hm⟩
    · exact absurd h hd
    · exact ⟨v, hv, matchB_view hm⟩
  have hplive : ∀ t, t < s.n → ∃ b, fHeap m.leaves m.leaves noHeap s.pre t = some b := by
    intro t ht
    obtain ⟨p, hp, hd⟩ := idsLive_get (upTo_mem q11 ht)
    rw [fHeap_live q12 hp]
    exact fBlk_live.1 hd
  refine (hok.calls N m.leaves L' _ _ w cargs hrun hb' hargs' hfc).mono fun e w' ⟨E1, fp1, u, he, hret, hsim, hfrm, hown, hinfo, hM1, hext⟩ => ?_
  have hlt : ∀ {id b}, H id = some b → id < nx := fun {id b} hb => by
    rcases Nat.lt_or_ge id nx with h | h
    · exact h
    · rw [fresh_heap hs hf h] at hb; simp at hb
  -- the ids
  have hinj : ∀ t t' id, tgt m.σ s.n nx t = some id → tgt m.σ s.n nx t' = some id → t = t' := by
    have old : ∀ {t id}, t < s.n → tgt m.σ s.n nx t = some id → ∃ v, m.σ[t]? = some v ∧ viewId v = some id ∧ id < nx := by
      intro t id ht h
      rw [tgt_old ht] at h
      obtain ⟨v, hv, hv'⟩ := hpre t ht
      simp only [hv] at h
      refine ⟨v, hv, h, ?_⟩
      rcases hv' with rfl | ⟨id', b, h1, h2⟩
      · simp [viewId] at h
      · rw [h] at h1; obtain rfl := Option.some.inj h1; exact hlt h2
    intro t t' id h h'
    rcases Nat.lt_or_ge t s.n with ht | ht <;> rcases Nat.lt_or_ge t' s.n with ht' | ht'
    · obtain ⟨v, g1, g2, _⟩ := old ht h
      obtain ⟨v', g1', g2', _⟩ := old ht' h'
      rcases Nat.decEq t t' with hne | he
      · exact absurd rfl (viewsApart_ne hva hne g1 g1' g2 g2')
      · exact he
    · obtain ⟨v, g1, g2, g3⟩ := old ht h
      rw [tgt_new ht'] at h'
      simp only [Option.some.injEq] at h'
      omega
    · obtain ⟨v, g1, g2, g3⟩ := old ht' h'
      rw [tgt_new ht] at h
      simp only [Option.some.injEq] at h
      omega
    · rw [tgt_new ht] at h
      rw [tgt_new ht'] at h'
      simp only [Option.some.injEq] at h h'
      omega
  -- whose cells
  have F1 : ∀ {x}, OwnAll (fHeap m.leaves m.leaves noHeap s.pre) (baseFp E fp m.σ) x → ∃ t v id b, t < s.n ∧ m.σ[t]? = some v ∧ viewId v = some id ∧ H id = some b ∧ fp id x ∧ baseFp E fp m.σ t x := by
    rintro x ⟨t, b, hb, hx⟩
    obtain ⟨v, id, b', g1, g2, g3, g4⟩ := hown0 hb hx
    refine ⟨t, v, id, b', ?_, g1, g2, g3, g4, hx⟩
    rcases Nat.lt_or_ge t s.n with h | h
    · exact h
    · rw [List.getElem?_eq_none (by omega)] at g1; simp at g1
  have F2 : ∀ {id b x}, H id = some b → fp id x → OwnAll (fHeap m.leaves m.leaves noHeap s.pre) (baseFp E fp m.σ) x →
      ∃ t v, t < s.n ∧ m.σ[t]? = some v ∧ viewId v = some id ∧ baseFp E fp m.σ t x := by
    intro id b x hb hx ho
    obtain ⟨t, v, id', b', g0, g1, g2, g3, g4, g5⟩ := F1 ho
    rcases Nat.decEq id' id with hne | he
    · exact absurd hx (hs.disj _ _ _ _ x g3 hb hne g4)
    · exact ⟨t, v, g0, g1, he ▸ g2, g5⟩
  have F3 : ∀ {t b x}, fHeap L' m.leaves noHeap s.post t = some b → fp1 t x → x.1 < w.heap.size → OwnAll (fHeap m.leaves m.leaves noHeap s.pre) (baseFp E fp m.σ) x :=
    fun {t b x} hb hx hl => hown x ⟨t, b, hb, hx⟩ hl
  have hplv : ∀ {t b}, fHeap L' m.leaves noHeap s.post t = some b → ∃ p, (t, p) ∈ s.post ∧ p ≠ .dead ∧ fBlk L' m.leaves p = some b := by
    intro t b hb
    rcases fHeap_get _ _ _ hb with ⟨⟨t', p⟩, hq, rfl, h2⟩ | ⟨h1, _⟩
    · exact ⟨p, hq, fBlk_live.2 ⟨b, h2⟩, h2⟩
    · simp [noHeap] at h1
  have hI1 : ∀ {t b}, t < s.n → fHeap L' m.leaves noHeap s.post t = some b → E1.info t = (baseE E H fp w m.σ m.lent).info t := by
    intro t b ht hb
    obtain ⟨p, hp, hd, _⟩ := hplv hb
    exact hinfo t ht (idsLive_mem hp hd)
  have F4 : ∀ {t b}, t < s.n → fHeap L' m.leaves noHeap s.post t = some b → ∀ x, fp1 t x ↔ baseFp E fp m.σ t x := by
    intro t b ht hb x
    obtain ⟨I1, g1, ok1⟩ := hsim.blk t b hb
    obtain ⟨b0, hb0⟩ := hplive t ht
    obtain ⟨I0, g0, ok0⟩ := hbase.blk t b0 hb0
    rw [hI1 ht hb, g0] at g1
    obtain rfl := Option.some.inj g1
    exact (ok1.own x).trans (ok0.own x).symm
  -- the state behind
  let E' : Env := ⟨fun id => if id < nx then E.info id else if s.n + (id - nx) ∈ idsLive s.post then E1.info (s.n + (id - nx)) else none, if noLent m.lent = true then E1.M else E.M⟩
  let fp' : Fp := fun id => if id < nx then fp id else fp1 (s.n + (id - nx))
  have hfro : ∀ {id}, id < nx → fp' id = fp id := fun {id} h => by simp [fp', h]
  have hfrn : ∀ {t}, s.n ≤ t → fp' (nx + (t - s.n)) = fp1 t := fun {t} h => by
    have h1 : ¬ nx + (t - s.n) < nx := by omega
    have h2 : s.n + (nx + (t - s.n) - nx) = t := by omega
    simp only [fp']
    rw [if_neg h1, h2]
  have hle : E.Le E' := ⟨fun id I hI => by
    have : id < nx := by
      rcases Nat.lt_or_ge id nx with h | h
      · exact h
      · rw [hf id h] at hI; simp at hI
    simp only [E', if_pos this]
    exact hI, fun ad v h => by
    simp only [E']
    split
    · exact hM1 _ _ (baseE_M (H := H) (fp := fp) (w := w) (σ := m.σ) (lent := m.lent) h)
    · exact h⟩
  have hro : noLent m.lent = true → ∀ ad v, E1.M ad = some v → E'.M ad = some v := fun hl ad v h => by simp only [E', if_pos hl]; exact h
  have hbM : noLent m.lent = true → ∀ ad v, (baseE E H fp w m.σ m.lent).M ad = some v → E.M ad = some v := fun hl ad v h => baseE_none hl h
  have hold : ∀ {id}, id < nx → E'.info id = E.info id := fun {id} h => by simp only [E', if_pos h]
  have hnew : ∀ {t}, s.n ≤ t → t ∈ idsLive s.post → E'.info (nx + (t - s.n)) = E1.info t := fun {t} h hl => by
    have h1 : ¬ nx + (t - s.n) < nx := by omega
    have h2 : s.n + (nx + (t - s.n) - nx) = t := by omega
    simp only [E']
    rw [if_neg h1, h2, if_pos hl]
  have hρ : ∀ t id I, renId m.σ (idsLive s.post) s.n nx t = some id → E1.info t = some I → E'.info id = some I := by
    intro t id I hr hI
    unfold renId at hr
    split at hr
    · simp at hr
    · rename_i hm
      have hm' := mem_iff.1 hm
      split at hr
      · rename_i hb
        have ht := blt_iff.1 hb
        split at hr
        · rename_i i hn
          simp only [Option.some.injEq] at hr
          subst hr
          rw [nth_eq] at hn
          rw [hinfo t ht hm', baseE_info hn] at hI
          exact hle.info _ _ hI
        · simp at hr
      · rename_i hb
        simp only [Option.some.injEq] at hr
        subst hr
        have ht : s.n ≤ t := by
          rcases Nat.lt_or_ge t s.n with h | h
          · rw [blt_iff.2 h] at hb; simp at hb
          · exact h
        rw [hnew ht hm']
        exact hI
  have hcase : ∀ {id b}, postBlks (noLent m.lent) (renId m.σ (idsLive s.post) s.n nx) m.σ s.n nx L' m.leaves s.post H id = some b →
      (id < nx ∧ H id = some b ∧ ∀ t p, (t, p) ∈ s.post → tgt m.σ s.n nx t ≠ some id) ∨
      (∃ t bp p, (t, p) ∈ s.post ∧ fBlk L' m.leaves p = some bp ∧ fHeap L' m.leaves noHeap s.post t = some bp ∧ t < s.n ∧ m.σ[t]? = some (.whole id) ∧ renBlk (noLent m.lent) (renId m.σ (idsLive s.post) s.n nx) (some bp) = some b) ∨
      (∃ t lo n g kd xs g' ys, fHeap L' m.leaves noHeap s.post t = some (.ints g' kd ys) ∧ t < s.n ∧ m.σ[t]? = some (.part id lo n) ∧ H id = some (.ints g kd xs) ∧ b = .ints g kd (xs.take lo ++ (ys ++ xs.drop (lo + n)))) ∨
      (∃ t bp p, (t, p) ∈ s.post ∧ fBlk L' m.leaves p = some bp ∧ fHeap L' m.leaves noHeap s.post t = some bp ∧ s.n ≤ t ∧ id = nx + (t - s.n) ∧ renBlk (noLent m.lent) (renId m.σ (idsLive s.post) s.n nx) (some bp) = some b) := by
    intro id b hb
    rcases postBlks_get H (ro := noLent m.lent) (ρ := renId m.σ (idsLive s.post) s.n nx) (L := L') (Lc := m.leaves) hinj (ps := s.post) (id := id) q8 with ⟨t, p, hp, ht, heq⟩ | ⟨h1, heq⟩
    · rw [hb] at heq
      have hHp : fHeap L' m.leaves noHeap s.post t = fBlk L' m.leaves p := fHeap_live q8 hp
      rcases Nat.lt_or_ge t s.n with hlt' | hge
      · rw [tgt_old hlt'] at ht
        obtain ⟨v, hv, _⟩ := hpre t hlt'
        simp only [hv] at ht
        unfold postAt at heq
        rw [blt_iff.2 hlt'] at heq
        simp only [nth_eq, hv] at heq
        cases v with
        | none => simp [viewId] at ht
        | empty => simp [viewId] at ht
        | whole i =>
          simp only [viewId, Option.some.injEq] at ht
          subst ht
          obtain ⟨bp, hbp⟩ := renBlk_some heq.symm
          refine Or.inr (Or.inl ⟨t, bp, p, hp, hbp, hHp.trans hbp, hlt', hv, ?_⟩)
          rw [hbp] at heq
          exact heq.symm
        | part i lo n =>
          simp only [viewId, Option.some.injEq] at ht
          subst ht
          obtain ⟨g, kd, xs, g', ys, h1, h2, h3⟩ := partB_some heq.symm
          exact Or.inr (Or.inr (Or.inl ⟨t, lo, n, g, kd, xs, g', ys, hHp.trans h2, hlt', hv, h1, h3⟩))
      · rw [tgt_new hge] at ht
        simp only [Option.some.injEq] at ht
        unfold postAt at heq
        have : Nat.blt t s.n = false := by
          cases hb' : Nat.blt t s.n with
          | false => rfl
          | true => have := blt_iff.1 hb'; omega
        rw [this] at heq
        obtain ⟨bp, hbp⟩ := renBlk_some heq.symm
        rw [hbp] at heq
        exact Or.inr (Or.inr (Or.inr ⟨t, bp, p, hp, hbp, hHp.trans hbp, hge, ht.symm, heq.symm⟩))
    · rw [hb] at heq
      exact Or.inl ⟨hlt heq.symm, heq.symm, h1⟩
  have hview : ∀ {t id}, t < s.n → (∃ v, m.σ[t]? = some v ∧ viewId v = some id) → (∃ b, H id = some b) ∧ tgt m.σ s.n nx t = some id := by
    rintro t id ht ⟨v, hv, hid⟩
    obtain ⟨v', hv', h⟩ := hpre t ht
    rw [hv] at hv'
    obtain rfl := Option.some.inj hv'
    refine ⟨?_, by rw [tgt_old ht, hv]; exact hid⟩
    rcases h with rfl | ⟨id', b, h1, h2⟩
    · simp [viewId] at hid
    · rw [hid] at h1
      obtain rfl := Option.some.inj h1
      exact ⟨b, h2⟩
  have hkeep : ∀ {id b x}, H id = some b → (∀ t p, (t, p) ∈ s.post → tgt m.σ s.n nx t ≠ some id) → fp id x → ¬ OwnAll (fHeap m.leaves m.leaves noHeap s.pre) (baseFp E fp m.σ) x := by
    intro id b x hb hu hx ho
    obtain ⟨t, v, ht, hv, hid, _⟩ := F2 hb hx ho
    obtain ⟨p, hp⟩ := ids_mem.1 (upTo_mem q10 ht)
    exact hu t p hp (hview ht ⟨v, hv, hid⟩).2
  have hplain : ∀ {t p}, (t, p) ∈ s.post → ∀ wd ps, p = .cells wd ps → allP plainP ps = true := fun {t p} hp wd ps he => allB_get q3 hp he
  have hblk : ∀ {id b}, postBlks (noLent m.lent) (renId m.σ (idsLive s.post) s.n nx) m.σ s.n nx L' m.leaves s.post H id = some b → (∃ I, E'.info id = some I ∧ BlkOK RT E' b I (fp' id) w') ∧
      ((∃ b0, H id = some b0) ∧ id < nx ∨ ∃ t bp, s.n ≤ t ∧ id = nx + (t - s.n) ∧ fHeap L' m.leaves noHeap s.post t = some bp) := by
    intro id b hb
    rcases hcase hb with ⟨hi, hb0, hu⟩ | ⟨t, bp, p, hp, hfb, hHp, ht, hv, hr⟩ | ⟨t, lo, n, g, kd, xs, g', ys, hHp, ht, hv, hb0, rfl⟩ | ⟨t, bp, p, hp, hfb, hHp, ht, rfl, hr⟩
    · obtain ⟨I, hI, ok⟩ := hs.blk id b hb0
      refine ⟨⟨I, by rw [hold hi]; exact hI, ?_⟩, Or.inl ⟨⟨b, hb0⟩, hi⟩⟩
      rw [hfro hi]
      exact (ok.frm hfrm fun x hx => hkeep hb0 hu hx).mono hle
    · obtain ⟨⟨b0, hb0⟩, _⟩ := hview ht ⟨_, hv, rfl⟩
      have hi := hlt hb0
      obtain ⟨I1, g1, ok1⟩ := hsim.blk t bp hHp
      refine ⟨⟨I1, ?_, ?_⟩, Or.inl ⟨⟨b0, hb0⟩, hi⟩⟩
      · rw [hold hi]
        rw [hI1 ht hHp, baseE_info hv] at g1
        exact g1
      · have hfe : fp' id = fp1 t := by
          rw [hfro hi]
          funext x
          refine propext (Iff.trans ?_ (F4 ht hHp x).symm)
          simp [baseFp, hv, viewFp]
        rw [hfe]
        exact renBlk_ok hρ hro (hplain hp) hfb hr ok1
    · have hi := hlt hb0
      obtain ⟨I, hI, ok⟩ := hs.blk id _ hb0
      obtain ⟨I1, g1, ok1⟩ := hsim.blk t _ hHp
      rw [hI1 ht hHp, baseE_info hv] at g1
      simp only [viewInfo, hI, Option.map_some, Option.some.injEq] at g1
      subst g1
      refine ⟨⟨I, by rw [hold hi]; exact hI, ?_⟩, Or.inl ⟨⟨_, hb0⟩, hi⟩⟩
      rw [hfro hi]
      refine (part_ok hfrm ok ok1 (hparts _ _ _ _ _ _ _ hv hb0) fun x hx ho => ?_).mono hle
      obtain ⟨t0, v0, ht0, hv0, hid0, hx0⟩ := F2 hb0 hx ho
      have : t0 = t := hinj t0 t id (hview ht0 ⟨_, hv0, hid0⟩).2 (hview ht ⟨_, hv, rfl⟩).2
      subst this
      simp only [baseFp, hv, viewFp, hI, Option.some.injEq, exists_eq_left'] at hx0
      obtain ⟨h1, h2, h3⟩ := hx0
      simp only [Bool.false_eq_true, if_false, Nat.mul_one] at h2 h3
      exact ⟨h2, h3⟩
    · obtain ⟨I1, g1, ok1⟩ := hsim.blk t bp hHp
      refine ⟨⟨I1, by rw [hnew ht (idsLive_mem hp (fBlk_live.2 ⟨bp, hfb⟩))]; exact g1, ?_⟩, Or.inr ⟨t, bp, ht, rfl, hHp⟩⟩
      rw [hfrn ht]
      exact renBlk_ok hρ hro (hplain hp) hfb hr ok1
  have hown' : ∀ {id b x}, postBlks (noLent m.lent) (renId m.σ (idsLive s.post) s.n nx) m.σ s.n nx L' m.leaves s.post H id = some b → fp' id x →
      (∃ b0, H id = some b0 ∧ fp id x ∧ id < nx) ∨ ∃ t bp, s.n ≤ t ∧ id = nx + (t - s.n) ∧ fHeap L' m.leaves noHeap s.post t = some bp ∧ fp1 t x := by
    intro id b x hb hx
    rcases (hblk hb).2 with ⟨⟨b0, hb0⟩, hi⟩ | ⟨t, bp, ht, rfl, hHp⟩
    · rw [hfro hi] at hx; exact Or.inl ⟨b0, hb0, hx, hi⟩
    · rw [hfrn ht] at hx; exact Or.inr ⟨t, bp, ht, rfl, hHp, hx⟩
  have hsep : ∀ {id b b0 x t bp}, postBlks (noLent m.lent) (renId m.σ (idsLive s.post) s.n nx) m.σ s.n nx L' m.leaves s.post H id = some b → H id = some b0 → fp id x →
      s.n ≤ t → fHeap L' m.leaves noHeap s.post t = some bp → ¬ fp1 t x := by
    intro id b b0 x t bp hb hb0 hx ht hHp hx1
    have ho := F3 hHp hx1 (hs.cell_lt hb0 hx)
    obtain ⟨t0, v0, ht0, hv0, hid0, hx0⟩ := F2 hb0 hx ho
    have hi := hlt hb0
    have touched : ∀ {t1 b1 v1}, t1 < s.n → m.σ[t1]? = some v1 → viewId v1 = some id → fHeap L' m.leaves noHeap s.post t1 = some b1 → False := by
      intro t1 b1 v1 h1 h2 h3 h4
      have he : t0 = t1 := hinj t0 t1 id (hview ht0 ⟨_, hv0, hid0⟩).2 (hview h1 ⟨_, h2, h3⟩).2
      subst he
      exact hsim.disj t0 t _ _ x h4 hHp (by omega) ((F4 h1 h4 x).2 hx0) hx1
    rcases hcase hb with ⟨_, hb0', hu⟩ | ⟨t1, bp1, p, hp, hfb, hHp1, ht1, hv, hr⟩ | ⟨t1, lo, n, g, kd, xs, g', ys, hHp1, ht1, hv, hb0', rfl⟩ | ⟨t1, bp1, p, hp, hfb, hHp1, ht1, rfl, hr⟩
    · exact hkeep hb0' hu hx ho
    · exact touched ht1 hv rfl hHp1
    · exact touched ht1 hv rfl hHp1
    · omega
  have hdis : ∀ i j b c x, postBlks (noLent m.lent) (renId m.σ (idsLive s.post) s.n nx) m.σ s.n nx L' m.leaves s.post H i = some b →
      postBlks (noLent m.lent) (renId m.σ (idsLive s.post) s.n nx) m.σ s.n nx L' m.leaves s.post H j = some c → i ≠ j → fp' i x → ¬ fp' j x := by
    intro i j b c x hb hc hij hx hy
    rcases hown' hb hx with ⟨b0, g1, g2, g3⟩ | ⟨t, bp, g1, rfl, g2, g3⟩ <;> rcases hown' hc hy with ⟨c0, l1, l2, l3⟩ | ⟨t', cp, l1, rfl, l2, l3⟩
    · exact hs.disj _ _ _ _ x g1 l1 hij g2 l2
    · exact hsep hb g1 g2 l1 l2 l3
    · exact hsep hc l1 l2 g1 g2 g3
    · exact hsim.disj t t' _ _ x g2 l2 (by omega) g3 l3
  have hro' : ∀ ad v, E'.M ad = some v → ad.spot = none ∧ w'.cell? ad = some v ∧ ∀ i b, postBlks (noLent m.lent) (renId m.σ (idsLive s.post) s.n nx) m.σ s.n nx L' m.leaves s.post H i = some b → ¬ fp' i (ad.block, ad.off) := by
    intro ad v hm
    simp only [E'] at hm
    split at hm
    · rename_i hl
      obtain ⟨h1, h2, h3⟩ := hsim.ro ad v hm
      refine ⟨h1, h2, fun i b hb hx => ?_⟩
      rcases hown' hb hx with ⟨b0, g1, g2, _⟩ | ⟨t, bp, g1, rfl, g2, g3⟩
      · rcases hext ad v hm with hx' | hx' | ho
        · exact (hs.ro ad v (hbM hl ad v hx')).2.2 i b0 g1 g2
        · have := hs.cell_lt g1 g2
          simp only at this
          omega
        · obtain ⟨t0, v0, ht0, hv0, hid0, hx0⟩ := F2 g1 g2 ho
          have touched : ∀ {t1 b1 v1}, t1 < s.n → m.σ[t1]? = some v1 → viewId v1 = some i → fHeap L' m.leaves noHeap s.post t1 = some b1 → False := by
            intro t1 b1 v1 k1 k2 k3 k4
            have he : t0 = t1 := hinj t0 t1 i (hview ht0 ⟨_, hv0, hid0⟩).2 (hview k1 ⟨_, k2, k3⟩).2
            subst he
            exact h3 t0 _ k4 ((F4 k1 k4 _).2 hx0)
          rcases hcase hb with ⟨_, hb0', hu⟩ | ⟨t1, bp1, p, hp, hfb, hHp1, ht1, hv, hr⟩ | ⟨t1, lo, n, g, kd, xs, g', ys, hHp1, ht1, hv, hb0', rfl⟩ | ⟨t1, bp1, p, hp, hfb, hHp1, ht1, rfl, hr⟩
          · exact hkeep hb0' hu g2 ho
          · exact touched ht1 hv rfl hHp1
          · exact touched ht1 hv rfl hHp1
          · have := hlt g1; omega
      · exact h3 t _ g2 g3
    · obtain ⟨h1, h2, h3⟩ := hs.ro ad v hm
      have hno : ¬ OwnAll (fHeap m.leaves m.leaves noHeap s.pre) (baseFp E fp m.σ) (ad.block, ad.off) := by
        intro ho
        obtain ⟨t, v, id, b, _, _, _, g3, g4, _⟩ := F1 ho
        exact h3 id b g3 g4
      refine ⟨h1, hfrm.cell h2 hno, fun i b hb hx => ?_⟩
      rcases hown' hb hx with ⟨b0, g1, g2, _⟩ | ⟨t, bp, g1, rfl, g2, g3⟩
      · exact h3 i b0 g1 g2
      · refine hno (F3 g2 g3 ?_)
        unfold World.cell? at h2
        split at h2
        · rename_i h; exact heap_lt h
        · simp at h2
  refine ⟨u, E', postBlks (noLent m.lent) (renId m.σ (idsLive s.post) s.n nx) m.σ s.n nx L' m.leaves s.post H, fp', _, _, he, h5, ren_RV hρ hro q4 hret, ?_, ?_⟩
  · exact ⟨fun id b hb => (hblk hb).1, hdis, hro'⟩
  · refine ⟨hle, hfrm.mono fun x hx => ?_, fun x hx hl => ?_, by omega, fun id hid => ?_, ?_⟩
    · obtain ⟨t, v, id, b, _, _, _, g3, g4, _⟩ := F1 hx
      exact ⟨id, b, g3, g4⟩
    · obtain ⟨id, b, hb, hx'⟩ := hx
      rcases hown' hb hx' with ⟨b0, g1, g2, _⟩ | ⟨t, bp, _, _, g1, g2⟩
      · exact ⟨id, b0, g1, g2⟩
      · obtain ⟨t, v, id, b, _, _, _, g3, g4, _⟩ := F1 (F3 g1 g2 hl)
        exact ⟨id, b, g3, g4⟩
    · simp only [E']
      rw [if_neg (by omega)]
      split
      · rename_i h
        obtain ⟨p, hp, _⟩ := idsLive_get h
        have := below_mem q9 hp
        omega
      · rfl
    · intro ad v hm
      simp only [E'] at hm
      split at hm
      · rename_i hl
        rcases hext ad v hm with h | h | ho
        · exact Or.inl (hbM hl ad v h)
        · exact Or.inr (Or.inl h)
        · obtain ⟨t, v, id, b, _, _, _, g3, g4, _⟩ := F1 ho
          exact Or.inr (Or.inr ⟨id, b, g3, g4⟩)
      · exact Or.inl hm
end Go.Eng
/-
  The engine, part six and a half: a struct is appended to a row of structs.
  Conditions: none; nothing is claimed of the program here.
-/
namespace Go.Eng
variable {RT : RoTab} {E : Env} {F : Fr} {a : Act} {H : Heap} {fp : Fp} {w : World} {P : Program} {Y : Type} {y : Y}
theorem recOf_rec : ∀ {cs : List Atom} {T : RecT} {row : List Int}, recOf cs = some (T, row) → recA T row = cs
  | [], T, row, h => by
    simp only [recOf, Option.some.injEq, Prod.mk.injEq] at h
    obtain ⟨rfl, rfl⟩ := h
    rfl
  | .roi k xs :: [], T, row, h => by
    simp only [recOf, Option.some.injEq, Prod.mk.injEq] at h
    obtain ⟨rfl, rfl⟩ := h
    rfl
  | .int k n :: r, T, row, h => by
    simp only [recOf] at h
    split at h
    · rename_i T' row' hr
      simp only [Option.some.injEq, Prod.mk.injEq] at h
      obtain ⟨rfl, rfl⟩ := h
      have := recOf_rec hr
      simp only [recA, recAs, List.headD_cons, List.tail_cons]
      simp only [recA] at this
      rw [this]
    · simp at h
def HoldsV (w : World) (us : List Value) (base : Option Addr) : Prop :=
  ∀ i, i < us.length → ∃ a, base = some a ∧ a.spot = none ∧ w.cell? ⟨a.block, a.off + i, none⟩ = us[i]?
theorem firstV_run {us : List Value} {base : Option Addr} {sz n l c : Nat} (h : HoldsV w us base) (hl : us.length = n * sz) :
    (Builtin.firstCells sz n (.slice base l c)).run P w = .ok us.toArray w := by
  cases base with
  | none =>
    have : us = [] := by
      cases us with
      | nil => rfl
      | cons u us => obtain ⟨a, hb, _⟩ := h 0 (by simp); simp at hb
    subst this
    simp [Builtin.firstCells]
  | some a =>
    simp only [Builtin.firstCells]
    rcases Nat.eq_zero_or_pos us.length with h0 | h0
    · have : us = [] := by simpa using h0
      subst this
      rw [← hl]
      simp [loadCells, loadCellsFrom]
    · obtain ⟨a', hb, hsp, _⟩ := h 0 h0
      obtain rfl := Option.some.inj hb
      have := run_loadCells (P := P) w a (n * sz) (fun j => us.getD j undef) (fun j hj => by
        obtain ⟨a', hb, _, hm⟩ := h j (by omega)
        obtain rfl := Option.some.inj hb
        rw [addr_eta hsp, add_lit, hm, List.getD_eq_getElem?_getD, List.getElem?_eq_getElem (by omega)]
        rfl)
      rw [this]
      congr 2
      apply List.ext_getElem?
      intro j
      by_cases hj : j < us.length
      · simp [List.getD_eq_getElem?_getD, hj, show j < n * sz by omega]
      · rw [List.getElem?_eq_none (by simp; omega), List.getElem?_eq_none (by omega)]
theorem appendV_run0 {t t2 : TypeId} {e e2 : TypeId} {sz n m cap : Nat} {us vs : List Value} {base : Option Addr} {u : Value} (hu : P.underlying t = some (.slice e))
    (hu2 : P.underlying t2 = some (.slice e2)) (hh : hasT P e = true) (hsz : sizeT P e = sz) (hbytes : P.bytesOf e ≤ 64) (hzv : ∀ w, ∃ zv, (zeroValue e).run P w = .ok zv w ∧ zv.cells.size = sz)
    (hx : HoldsV w us base) (hxl : us.length = n * sz) (hyl : vs.length = m * sz) (hlen : (Builtin.lenOf u).run P w = .ok m w) (hfy : (Builtin.firstCells sz m u).run P w = .ok vs.toArray w) (hfy2 : (Builtin.firstCells sz m u).run P w.drew = .ok vs.toArray w.drew) (hb : n + m ≤ mostR) (o : TypeId) :
    (n + m ≤ cap ∧ ∀ w', Stored P w base (n * sz) vs w' →
      (Builtin.append_ #[t, t2] o #[.slice base n cap, u]).run P w = .ok (.slice base (n + m) cap) w') ∨
    (cap < n + m ∧ ∃ newCap cs, n + m ≤ newCap ∧ cs.size = newCap * sz ∧ (∀ j, j < (us ++ vs).length → cs[j]? = (us ++ vs)[j]?) ∧
      (Builtin.append_ #[t, t2] o #[.slice base n cap, u]).run P w = .ok (.slice (some ⟨w.heap.size, 0, none⟩) (n + m) newCap) (w.drew.alloc (.cells cs e))) := by
  have hti : ∀ v : World, (typeInfo e).run P v = .ok ((P.info? e).getD default) v := fun v => by
    unfold hasT at hh
    cases hi : P.info? e with
    | none => simp [hi] at hh
    | some i => simp [typeInfo, hi]
  have hby : ((P.info? e).getD default).bytes ≤ 64 := by
    unfold Program.bytesOf at hbytes
    unfold hasT at hh
    cases hi : P.info? e with
    | none => simp [hi] at hh
    | some i => simpa [hi] using hbytes
  by_cases hroom : n + m ≤ cap
  · refine Or.inl ⟨hroom, fun w' hw' => ?_⟩
    cases base with
    | none =>
      simp only [Stored] at hw'
      subst hw'
      simp [Builtin.append_, run_und hu, run_und hu2, run_size hh, hsz, hlen, hfy, hroom]
    | some a =>
      simp only [Stored] at hw'
      simp [Builtin.append_, run_und hu, run_und hu2, run_size hh, hsz, hlen, hfy, hroom, hw']
  · refine Or.inr ⟨by omega, ?_⟩
    obtain ⟨zv, hzv2, hz1⟩ := hzv w.drew
    have hfx : (Builtin.firstCells sz n (.slice base n cap)).run P w.drew = .ok us.toArray w.drew := firstV_run (w := w.drew) hx hxl
    let q := Question.appendCap (n + m) cap e
    let nc := q.cut (w.tape w.drawn q)
    have hnc : n + m ≤ nc := by simp only [nc, q, Question.cut]; omega
    let cs : Array Value := us.toArray ++ vs.toArray ++ Builtin.zeroCells zv.cells (nc - (n + m))
    have hcs : cs.size = nc * sz := by
      have : (nc - (n + m)) * sz + (n + m) * sz = nc * sz := by rw [← Nat.add_mul]; congr 1; omega
      rw [Nat.add_mul] at this
      simp [cs, Builtin.zeroCells, hz1]
      omega
    refine ⟨nc, cs, hnc, hcs, fun j hj => ?_, ?_⟩
    · simp only [cs]
      rw [Array.getElem?_append_left (by simpa using hj)]
      simp [Array.getElem?_append, List.getElem?_append]
    · have hbig : ¬ ((n + m : Nat) : Int) > IntKind.i64.max := by
        have h1 : IntKind.i64.max = 9223372036854775807 := rfl
        have h2 : mostR = 1000000 := rfl
        omega
      have hnext : ¬ Builtin.nextslicecap (n + m) cap * ((P.info? e).getD default).bytes > 2 ^ 48 := by
        have h1 := nextcap_le (n := n + m) (c := cap) (by omega)
        have h3 : Builtin.nextslicecap (n + m) cap * ((P.info? e).getD default).bytes ≤ (2 * (n + m) + 192) * 64 := Nat.mul_le_mul h1 hby
        have h2 : mostR = 1000000 := rfl
        omega
      have hq : (Question.appendCap (n + m) cap e).forced = false := rfl
      have hch : (choose (.appendCap (n + m) cap e)).run P w = .ok nc w.drew := by
        simp only [run_choose, hq, Bool.false_eq_true, if_false]
        rfl
      simp only [Builtin.append_, List.getElem?_toArray, List.getElem?_cons_zero, List.getElem?_cons_succ, Sem.run_bind, run_und hu, Result.andThen_ok, run_size hh, hsz, run_und hu2, Sem.run_pure, Bool.false_eq_true, if_false, hlen, hroom, hti, hbig, false_and, hnext, hch, run_askRoom, hfx, Bool.not_false, if_true, hfy2, hzv2, newRow, run_newObj]
      rfl
theorem appendV_run {t t2 : TypeId} {e e2 : TypeId} {sz n m cap cap2 : Nat} {us vs : List Value} {base base2 : Option Addr} (hu : P.underlying t = some (.slice e))
    (hu2 : P.underlying t2 = some (.slice e2)) (hh : hasT P e = true) (hsz : sizeT P e = sz) (hbytes : P.bytesOf e ≤ 64) (hzv : ∀ w, ∃ zv, (zeroValue e).run P w = .ok zv w ∧ zv.cells.size = sz)
    (hx : HoldsV w us base) (hxl : us.length = n * sz) (hy : HoldsV w vs base2) (hyl : vs.length = m * sz) (hb : n + m ≤ mostR) (o : TypeId) :
    (n + m ≤ cap ∧ ∀ w', Stored P w base (n * sz) vs w' →
      (Builtin.append_ #[t, t2] o #[.slice base n cap, .slice base2 m cap2]).run P w = .ok (.slice base (n + m) cap) w') ∨
    (cap < n + m ∧ ∃ newCap cs, n + m ≤ newCap ∧ cs.size = newCap * sz ∧ (∀ j, j < (us ++ vs).length → cs[j]? = (us ++ vs)[j]?) ∧
      (Builtin.append_ #[t, t2] o #[.slice base n cap, .slice base2 m cap2]).run P w = .ok (.slice (some ⟨w.heap.size, 0, none⟩) (n + m) newCap) (w.drew.alloc (.cells cs e))) :=
  appendV_run0 hu hu2 hh hsz hbytes hzv hx hxl hyl rfl (firstV_run hy hyl) (firstV_run (w := w.drew) hy hyl) hb o
def RecR (RT : RoTab) (E : Env) (T : RecT) (xss : List (List Int)) (us : List Value) : Prop :=
  us.length = xss.length * recW T ∧ ∀ i j x, i < xss.length → (recA T (xss.getD i []))[j]? = some x → ∃ v, us[i * recW T + j]? = some v ∧ R RT E x v
theorem RecR.snoc {T : RecT} {xss : List (List Int)} {row : List Int} {us vs : List Value} (h : RecR RT E T xss us) (hv : RecR RT E T [row] vs) : RecR RT E T (xss ++ [row]) (us ++ vs) := by
  have hvl : vs.length = recW T := by have := hv.1; simpa using this
  refine ⟨by rw [List.length_append, List.length_append, h.1, hvl, List.length_singleton, Nat.add_mul, Nat.one_mul], fun i j x hi hj => ?_⟩
  rw [List.length_append, List.length_singleton] at hi
  have hjw : j < recW T := by
    rw [← recA_len T ((xss ++ [row]).getD i [])]
    rcases Nat.lt_or_ge j (recA T ((xss ++ [row]).getD i [])).length with h' | h'
    · exact h'
    · rw [List.getElem?_eq_none h'] at hj; simp at hj
  by_cases hix : i < xss.length
  · have hg : (xss ++ [row]).getD i [] = xss.getD i [] := by simp [List.getD_eq_getElem?_getD, List.getElem?_append_left hix]
    rw [hg] at hj
    obtain ⟨v, h1, h2⟩ := h.2 i j x hix hj
    have := cell_in hix hjw
    exact ⟨v, by rw [List.getElem?_append_left (by rw [h.1]; exact this)]; exact h1, h2⟩
  · have hi' : i = xss.length := by omega
    subst hi'
    have hg : (xss ++ [row]).getD xss.length [] = row := by simp [List.getD_eq_getElem?_getD]
    rw [hg] at hj
    obtain ⟨v, h1, h2⟩ := hv.2 0 j x (by simp) (by simpa using hj)
    refine ⟨v, ?_, h2⟩
    rw [List.getElem?_append_right (by rw [h.1]; omega), h.1, show xss.length * recW T + j - xss.length * recW T = j by omega]
    simpa using h1
theorem RecR.one {T : RecT} {xss : List (List Int)} {us : List Value} (h : RecR RT E T xss us) : ∀ u ∈ us, u.oneCell' = true := by
  intro u hu
  obtain ⟨p, hp, rfl⟩ := List.getElem_of_mem hu
  have hw : 0 < recW T := by
    rcases Nat.eq_zero_or_pos (recW T) with h0 | h0
    · rw [h.1, h0] at hp; omega
    · exact h0
  have hi : p / recW T < xss.length := by
    rw [Nat.div_lt_iff_lt_mul hw, ← h.1]
    exact hp
  have hj : p % recW T < recW T := Nat.mod_lt _ hw
  have hlen := recA_len T (xss.getD (p / recW T) [])
  obtain ⟨v, h1, h2⟩ := h.2 (p / recW T) (p % recW T) _ hi (List.getElem?_eq_getElem (by omega))
  have hpe : p / recW T * recW T + p % recW T = p := by rw [Nat.mul_comm]; exact Nat.div_add_mod _ _
  rw [hpe, List.getElem?_eq_getElem hp] at h1
  obtain rfl := Option.some.inj h1
  rcases recAs_io _ _ _ (List.getElem?_eq_getElem (show p % recW T < (recA T (xss.getD (p / recW T) [])).length by omega)) with ⟨k, n, hx⟩ | ⟨k, l, hx⟩
  · have hx' : (recA T (xss.getD (p / recW T) []))[p % recW T]'(by omega) = .int k n := hx
    rw [hx'] at h2
    rw [R.int_inv h2]
    rfl
  · have hx' : (recA T (xss.getD (p / recW T) []))[p % recW T]'(by omega) = .roi k l := hx
    rw [hx'] at h2
    generalize us[p] = u at h2
    cases h2
    rfl
theorem RecR.mono {E' : Env} {T : RecT} {xss : List (List Int)} {us : List Value} (hE : E.Le E') (h : RecR RT E T xss us) : RecR RT E' T xss us :=
  ⟨h.1, fun i j x hi hj => let ⟨v, h1, h2⟩ := h.2 i j x hi hj; ⟨v, h1, h2.mono hE⟩⟩
theorem recs_ok {T : RecT} {xss : List (List Int)} {us : List Value} {I : Info} {f : Nat × Nat → Prop} (h : RecR RT E T xss us) (hown : ∀ x, f x ↔ Own I x) (hcap : I.n ≤ I.cap)
    (hlive : ∀ x, f x → ∃ v, w.cell? ⟨x.1, x.2, none⟩ = some v ∧ w.frozen? ⟨x.1, x.2, none⟩ = false) (hw : I.w = recW T) (hn : I.n = xss.length) (hg : I.grow = true)
    (hc : ∀ p, p < us.length → w.cell? ⟨I.cb, I.coff + p, none⟩ = us[p]?) : BlkOK RT E (.recs true T xss) I f w :=
  ⟨hown, hcap, hlive, hw, hn, fun _ => hg, fun i j x hi hj => by
    obtain ⟨v, h1, h2⟩ := h.2 i j x hi hj
    have hp : i * recW T + j < us.length := by
      rcases Nat.lt_or_ge (i * recW T + j) us.length with h' | h'
      · exact h'
      · rw [List.getElem?_eq_none h'] at h1; simp at h1
    exact ⟨v, by rw [hw, hc _ hp, h1], h2⟩⟩
theorem grownV_sound {nx : Nat} {T : RecT} {xss : List (List Int)} {us : List Value} {cs : Array Value} {e : TypeId} {nn : Bool} {newCap : Nat} {H0 : Heap} (hs : Sim RT E H fp w) (hf : Fresh E nx)
    (hsub : ∀ id b, H id = some b → H0 id = some b) (hcap : xss.length ≤ newCap) (hr : RecR RT E T xss us) (hcs : cs.size = newCap * recW T) (hc : ∀ j, j < us.length → cs[j]? = us[j]?) :
    ∃ E' fp', RV RT E' (.at (.full nx nn)) (.slice (some ⟨w.heap.size, 0, none⟩) xss.length newCap) ∧ Sim RT E' (putH H nx (some (.recs true T xss))) fp' (w.drew.alloc (.cells cs e)) ∧
      Step E H0 fp w nx E' (putH H nx (some (.recs true T xss))) fp' (w.drew.alloc (.cells cs e)) (nx + 1) := by
  have hd := hs.frm (Frm.drew w (fun _ => False)) (fun _ _ h => h) (fun _ _ _ h => h)
  let I : Info := ⟨w.heap.size, 0, xss.length, newCap, recW T, true⟩
  have hle : E.Le (putI E nx I) := putI_le (hf nx (Nat.le_refl _))
  have hown : ∀ x, Own I x → x.1 = w.heap.size ∧ x.2 < newCap * recW T := fun x hx => by
    obtain ⟨h1, h2, h3⟩ := hx
    simp only [I, if_true] at h1 h3
    exact ⟨h1, by omega⟩
  have ok : BlkOK RT (putI E nx I) (.recs true T xss) I (Own I) (w.drew.alloc (.cells cs e)) :=
    recs_ok (hr.mono hle) (fun _ => Iff.rfl) hcap (fun x hx => by
      obtain ⟨h1, h2⟩ := hown x hx
      have e1 : w.heap.size = w.drew.heap.size := rfl
      rw [h1, e1, cells_alloc, frozen_alloc]
      exact ⟨cs[x.2]'(by omega), by simp, rfl⟩) rfl rfl rfl (fun p hp => by
      show (w.drew.alloc (.cells cs e)).cell? ⟨w.drew.heap.size, 0 + p, none⟩ = _
      rw [Nat.zero_add, cells_alloc, hc p hp])
  have g1 := Sim.add (nx := nx) (O := fun _ => False) hd (hf nx (Nat.le_refl _)) (Frm.alloc w.drew (.cells cs e) (fun _ => False)) (fun _ _ h => h) (fun _ _ _ h => h) ok (fun x hx => new_apart hd (hown x hx).1)
  refine ⟨_, _, ?_, g1, Step.add hf hsub ((Frm.drew w _).trans (Frm.alloc w.drew (.cells cs e) _) fun x hx _ => hx) (fun x hx hlt => ?_)⟩
  · exact R.full (I := I) (base := some ⟨w.heap.size, 0, none⟩) (by simp [putI]) (Or.inl rfl) (fun _ => rfl) hcap (fun _ => rfl)
  · have := (hown x hx).1
    omega
theorem zeroLen_facts {e : TypeId} {sz : Nat} (h : zeroLen P e sz = true) : hasT P e = true ∧ ∀ w : World, ∃ zv, (zeroValue e).run P w = .ok zv w ∧ zv.cells.size = sz := by
  unfold zeroLen at h
  split at h
  · rename_i z hz
    have hl := Nat.eq_of_beq_eq_true h
    rw [lenA_eq] at hl
    refine ⟨?_, fun w => ?_⟩
    · obtain ⟨_, _, _, hh⟩ := zero_sound (P := P) (w := default) (RT := fun _ => none) (E := ⟨fun _ => none, fun _ => none⟩) hz
      exact hh
    · obtain ⟨zv, h1, h2, _⟩ := zero_sound (P := P) (w := w) (RT := fun _ => none) (E := ⟨fun _ => none, fun _ => none⟩) hz
      exact ⟨zv, h1, by rw [h2.1, hl]⟩
  · simp at h
theorem appendR_sound {nx : Nat} {t t2 o e : TypeId} {x z : AV} {ux uz : Value} {k : AV → Heap → Nat → Option Y} (hs : Sim RT E H fp w) (hf : Fresh E nx)
    (hx : RV RT E x ux) (hz : RV RT E z uz) (hse : structE P t = some e) (hk : appendR P H nx t2 e x z k = some y) :
    ∃ v H' nx' E' fp' u w', k v H' nx' = some y ∧ (Builtin.append_ #[t, t2] o #[ux, uz]).run P w = .ok u w' ∧ RV RT E' v u ∧ Sim RT E' H' fp' w' ∧ Step E H fp w nx E' H' fp' w' nx' := by
  have hu : P.underlying t = some (.slice e) := by
    unfold structE at hse
    split at hse
    · rename_i e' hu
      split at hse
      · simp only [Option.some.injEq] at hse; subst hse; exact hu
      · simp at hse
    · simp at hse
  unfold appendR at hk
  split at hk
  · rename_i e2 id2 nn2 hu2
    split at hk
    · rename_i wd cs hb2
      split at hk
      · rename_i T row hrec
        rw [gate_some] at hk
        obtain ⟨hg, hk⟩ := hk
        simp only [Bool.and_eq_true] at hg
        obtain ⟨g1, g2, g3, g4, g5⟩ := hg
        have g1 := Nat.eq_of_beq_eq_true g1
        rw [lenA_eq] at g1
        have g2 := Nat.eq_of_beq_eq_true g2
        have g4 := Nat.le_of_ble_eq_true g4
        obtain ⟨hh, hzv⟩ := zeroLen_facts g5
        have hwd : 0 < wd := Nat.lt_of_lt_of_le Nat.zero_lt_one (by simpa [Nat.blt] using g3)
        have hcs := recOf_rec hrec
        have hrw : recW T = wd := by rw [← recA_len T row, hcs, g1]
        -- the element
        obtain ⟨base2, cap2, vs, rfl, hyV, hyl, hyR⟩ : ∃ base2 cap2 vs, uz = .slice base2 1 cap2 ∧ HoldsV w vs base2 ∧ vs.length = 1 * wd ∧ RecR RT E T [row] vs := by
          cases hz with
          | full hI hbase hn hcc hgg =>
            rename_i cap I base
            obtain ⟨J, hJ, ok⟩ := hs.blk _ _ hb2
            rw [hI] at hJ
            obtain rfl := Option.some.inj hJ
            obtain ⟨kw, kn, kg, kc⟩ := ok.kind
            have hn1 : I.n = 1 := by
              rw [g1] at kn
              rcases Nat.lt_trichotomy I.n 1 with h | h | h
              · have : I.n = 0 := by omega
                rw [this] at kn; omega
              · exact h
              · have := Nat.mul_le_mul_right wd h
                omega
            have hb : base = some ⟨I.cb, I.coff, none⟩ := by
              rcases hbase with h | ⟨h, _⟩
              · exact h
              · omega
            subst hb
            have hcell : ∀ j, j < wd → ∃ v, w.cell? ⟨I.cb, I.coff + j, none⟩ = some v ∧ ∀ x, cs[j]? = some x → R RT E x v := fun j hj => by
              obtain ⟨v, h1, h2⟩ := kc j _ (List.getElem?_eq_getElem (by omega))
              exact ⟨v, h1, fun x hx => by rw [List.getElem?_eq_getElem (by omega)] at hx; obtain rfl := Option.some.inj hx; exact h2⟩
            refine ⟨_, cap, (List.range wd).map fun j => (w.cell? ⟨I.cb, I.coff + j, none⟩).getD undef, by rw [hn1], fun i hi => ?_, by simp, by simp [hrw], fun i j x hi hj => ?_⟩
            · have hi' : i < wd := by simpa using hi
              obtain ⟨v, h1, _⟩ := hcell i hi'
              exact ⟨_, rfl, rfl, by simp [h1, hi']⟩
            · have : i = 0 := by simpa using hi
              subst this
              have hj' : cs[j]? = some x := by rw [← hcs]; simpa using hj
              have hjw : j < wd := by
                rcases Nat.lt_or_ge j cs.length with h | h
                · omega
                · rw [List.getElem?_eq_none h] at hj'; simp at hj'
              obtain ⟨v, h1, h2⟩ := hcell j hjw
              exact ⟨v, by simp [h1, hjw], h2 x hj'⟩
        split at hk
        · -- onto nothing
          have hx' : ux = .slice none 0 0 := by cases hx; rfl
          subst hx'
          have hxV : HoldsV w [] none := fun i hi => by simp at hi
          rcases appendV_run (P := P) (w := w) (n := 0) (m := 1) (cap := 0) (cap2 := cap2) hu hu2 hh g2.symm g4 (by rw [g2] at hzv; rw [g2]; exact hzv) hxV (by simp) hyV hyl (by decide) o with ⟨hr, _⟩ | ⟨_, newCap, ca, h1, h2, h3, h4⟩
          · omega
          · simp only [List.nil_append, Nat.zero_add] at h1 h3 h4
            obtain ⟨E', fp', q1, q2, q3⟩ := grownV_sound (H0 := H) (nx := nx) (nn := false) (e := e) (newCap := newCap) hs hf (fun _ _ h => h) (by simpa using h1) hyR (by rw [h2, hrw]) h3
            exact ⟨_, _, _, E', fp', _, _, hk, h4, q1, q2, q3⟩
        · rename_i id nn
          split at hk
          · rename_i T' xss hb
            rw [gate_some, eqT_iff, chk_some] at hk
            obtain ⟨rfl, hbd, hk⟩ := hk
            have hne : id ≠ id2 := fun h => by rw [h, hb2] at hb; simp at hb
            cases hx with
            | full hI hbase hn hcc hgg =>
              rename_i cap I base
              obtain ⟨J, hJ, ok⟩ := hs.blk _ _ hb
              rw [hI] at hJ
              obtain rfl := Option.some.inj hJ
              obtain ⟨hw, hnn, hgr, hc⟩ := ok.kind
              have hgr := hgr rfl
              have hcap := ok.cap
              obtain rfl := hgg hgr
              rw [hrw] at hw
              have hsk : Sim RT E (putH H id none) fp w := hs.sub kill_sub
              have hlive0 : ∀ p, p < I.cap * wd → fp id (I.cb, I.coff + p) := fun p hp => by
                refine (ok.own _).2 ⟨rfl, by simp, ?_⟩
                simp only [hgr, if_true, hw]
                omega
              have hnc : xss.length * wd ≤ I.cap * wd := Nat.mul_le_mul_right wd (by omega)
              obtain ⟨us, hus⟩ : ∃ us : List Value, us = (List.range (xss.length * wd)).map fun p => (w.cell? ⟨I.cb, I.coff + p, none⟩).getD undef := ⟨_, rfl⟩
              have husl : us.length = xss.length * wd := by rw [hus]; simp
              have hcellU : ∀ p, p < us.length → w.cell? ⟨I.cb, I.coff + p, none⟩ = us[p]? := fun p hp => by
                obtain ⟨v, h1, _⟩ := ok.live _ (hlive0 p (by omega))
                have hp' : p < xss.length * wd := by omega
                simp only at h1
                rw [hus]
                simp [h1, hp']
              have hxR : RecR RT E T xss us := ⟨by rw [husl, hrw], fun i j x hi hj => by
                obtain ⟨v, h1, h2⟩ := hc i j x hi hj
                have hjw : j < wd := by
                  rw [← hrw, ← recA_len T (xss.getD i [])]
                  rcases Nat.lt_or_ge j (recA T (xss.getD i [])).length with h' | h'
                  · exact h'
                  · rw [List.getElem?_eq_none h'] at hj; simp at hj
                have := cell_in hi hjw
                rw [hrw, ← hcellU _ (by rw [husl]; exact this)]
                rw [hw] at h1
                exact ⟨v, h1, h2⟩⟩
              have hxV : HoldsV w us base := fun i hi => by
                rcases hbase with hbase | ⟨h0, _⟩
                · exact ⟨_, hbase, rfl, hcellU i hi⟩
                · rw [husl, ← hnn, h0] at hi; omega
              have hall := hxR.snoc hyR
              have hvl : vs.length = wd := by omega
              rw [hnn]
              rcases appendV_run (P := P) (w := w) (n := xss.length) (m := 1) (cap := I.cap) (cap2 := cap2) hu hu2 hh g2.symm g4 (by rw [g2] at hzv; rw [g2]; exact hzv) hxV husl hyV hyl hbd o with ⟨hr, hrun⟩ | ⟨_, newCap, ca, h1, h2, h3, h4⟩
              · -- in place
                let J : Info := ⟨I.cb, I.coff, xss.length + 1, I.cap, wd, true⟩
                have hJI : ∀ x, Own J x ↔ fp id x := fun x => by
                  rw [ok.own x]
                  simp only [Own, J, hgr, if_true, hw]
                have hn1c : (xss.length + 1) * wd ≤ I.cap * wd := Nat.mul_le_mul_right wd hr
                have hsum : (xss.length + 1) * wd = xss.length * wd + wd := by rw [Nat.add_mul, Nat.one_mul]
                have hb0 : base = some ⟨I.cb, I.coff, none⟩ := by
                  rcases hbase with h | ⟨h, h2⟩
                  · exact h
                  · have := h2 hgr; omega
                subst hb0
                have hdead : ∀ x, OwnAll (putH H id none) fp x → ¬ fp id x := by
                  rintro x ⟨id', b', hb', hx'⟩ hfx
                  rw [putH_eq] at hb'
                  split at hb'
                  · simp at hb'
                  · rename_i hne
                    exact hs.disj _ _ _ _ x (kill_sub id' b' (by rw [putH_eq, if_neg hne]; exact hb')) hb hne hx' hfx
                obtain ⟨w', s1, s2, s3⟩ := storeCells_run (P := P) (b := I.cb) (o := I.coff + xss.length * wd) vs 0 w hyR.one (fun j hj => by
                  have := ok.live _ (hlive0 (xss.length * wd + j) (by omega))
                  simp only [Nat.zero_add]
                  rw [← Nat.add_assoc] at this
                  exact this)
                have hF : Frm w (fun x => x.1 = I.cb ∧ I.coff + xss.length * wd ≤ x.2 ∧ x.2 < I.coff + xss.length * wd + wd) w' := by
                  refine s2.mono fun x hx => ?_
                  rw [Nat.add_zero, hvl] at hx
                  exact hx
                have hOf : ∀ x : Nat × Nat, (x.1 = I.cb ∧ I.coff + xss.length * wd ≤ x.2 ∧ x.2 < I.coff + xss.length * wd + wd) → fp id x := by
                  rintro ⟨x1, x2⟩ ⟨rfl, hx2, hx3⟩
                  have := hlive0 (x2 - I.coff) (by simp only at hx3; omega)
                  rw [show I.coff + (x2 - I.coff) = x2 by simp only at hx2; omega] at this
                  exact this
                have hle : E.Le (putI E nx J) := putI_le (hf nx (Nat.le_refl _))
                have hok : BlkOK RT (putI E nx J) (.recs true T (xss ++ [row])) J (Own J) w' := by
                  refine recs_ok (hall.mono hle) (fun _ => Iff.rfl) hr (fun x hx => ?_) (by simp only [J]; exact hrw.symm) (by simp [J]) rfl (fun p hp => ?_)
                  · obtain ⟨v, hv, hz⟩ := ok.live x ((hJI x).1 hx)
                    obtain ⟨v', hv'⟩ := hF.live hv
                    exact ⟨v', hv', by rw [hF.frozen (World.block_lt_of_cell? _ _ hv)]; exact hz⟩
                  · rw [List.length_append, husl, hvl] at hp
                    show w'.cell? ⟨I.cb, I.coff + p, none⟩ = _
                    by_cases hpx : p < us.length
                    · rw [List.getElem?_append_left hpx]
                      obtain ⟨v, hv⟩ : ∃ v, w.cell? ⟨I.cb, I.coff + p, none⟩ = some v := ⟨us[p], by rw [hcellU p hpx, List.getElem?_eq_getElem hpx]⟩
                      rw [hF.cell hv (by simp; omega), ← hv, hcellU p hpx]
                    · rw [List.getElem?_append_right (by omega), husl]
                      have := s3 (p - xss.length * wd) (by omega)
                      rw [Nat.zero_add, Nat.add_assoc, show xss.length * wd + (p - xss.length * wd) = p by omega] at this
                      exact this
                have hsim := Sim.add hsk (hf _ (Nat.le_refl _)) hF (fun x hx hO => hdead x hx (hOf x hO)) (fun a v ha hO => (hs.ro a v ha).2.2 id _ hb (hOf _ hO)) hok
                  (fun x hx => ⟨fun id' b' hb' hx' => hdead x ⟨id', b', hb', hx'⟩ ((hJI x).1 hx), fun a v ha he => (hs.ro a v ha).2.2 id _ hb (by rw [he]; exact (hJI x).1 hx)⟩)
                have hstep : Step E H fp w nx (putI E nx J) (putH (putH H id none) nx (some (.recs true T (xss ++ [row])))) (putFp fp nx (Own J)) w' (nx + 1) :=
                  Step.add hf kill_sub (hF.mono fun x hx => ⟨id, _, hb, hOf x hx⟩) (fun x hx _ => ⟨id, _, hb, (hJI x).1 hx⟩)
                refine ⟨_, _, _, _, _, _, _, hk, hrun w' (by simp only [Stored, add_lit]; exact s1), ?_, hsim, hstep⟩
                exact R.full (I := J) (base := some ⟨I.cb, I.coff, none⟩) (by simp [putI]) (Or.inl rfl) (fun _ => rfl) hr (fun _ => rfl)
              · obtain ⟨E', fp', q1, q2, q3⟩ := grownV_sound (H0 := H) (nx := nx) (nn := nn) (e := e) (newCap := newCap) hsk hf kill_sub (xss := xss ++ [row]) (by simpa using h1) hall (by rw [h2, hrw]) h3
                rw [List.length_append, List.length_singleton] at q1
                exact ⟨_, _, _, E', fp', _, _, hk, h4, q1, q2, q3⟩
          · simp at hk
        · simp at hk
      · simp at hk
    · simp at hk
  · simp at hk
end Go.Eng
/-
  The engine, part nine: one operation.
  Conditions: none; nothing is claimed of the program here.
-/
namespace Go.Eng
variable {RT : RoTab} {E : Env} {F : Fr} {a : Act} {H : Heap} {fp : Fp} {w : World} {P : Program} {Y : Type} {y : Y}
def enters (P : Program) (g : Nat) : Bool :=
  match P.funcs[g]? with
  | some fn => match fn.body with
    | some _ => !(fn.name == "runtime.NumGoroutine")
    | none => false
  | none => false
theorem run_enter {g : Nat} {args : Array Value} (h : enters P g = true) : (callFunc g args).run P w = .ok (.enter g args) w := by
  unfold enters at h
  split at h
  · rename_i fn hf
    split at h
    · rename_i c hb
      have h1 : fn.name ≠ "runtime.NumGoroutine" := by simpa using h
      simp [callFunc, hf, h1, hb]
    · simp at h
  · simp at h
theorem pick_mem {s : Spec} {as : List AV} : ∀ {l : List (Nat × Spec)} {f : Nat}, pick l f as = some s → (f, s) ∈ l
  | [], f, h => by simp [pick] at h
  | (g, z) :: r, f, h => by
    simp only [pick] at h
    split at h
    · rename_i hb
      simp only [Bool.and_eq_true] at hb
      have := Nat.eq_of_beq_eq_true hb.1
      cases h
      subst this
      exact List.mem_cons_self
    · exact List.mem_cons_of_mem _ (pick_mem h)
theorem find_mem {α : Type 1} {s : α} : ∀ {l : List (Nat × α)} {f : Nat}, find l f = some s → (f, s) ∈ l
  | [], f, h => by simp [find] at h
  | (g, s') :: r, f, h => by
    simp only [find] at h
    split at h
    · rename_i hb
      have := Nat.eq_of_beq_eq_true hb
      subst this
      simp only [Option.some.injEq] at h
      subst h
      exact List.mem_cons_self ..
    · exact List.mem_cons_of_mem _ (find_mem h)
def Went (C : Cfg) (f : FuncId) (cargs : Array Value) (w : World) (E : Env) (H : Heap) (fp : Fp) (nx : Nat) (k : KC Y) (y : Y) : Prop :=
  Calls C.P f cargs w fun e w' => ∃ u E' H' fp' nx' v, e = .returned u ∧ k v H' nx' = some y ∧ RV C.RT E' v u ∧ Sim C.RT E' H' fp' w' ∧ Step E H fp w nx E' H' fp' w' nx'
def InlOK (C : Cfg) (inl : Inl) : Prop :=
  ∀ (Y : Type) (y : Y) (g : Nat) (args : List AV) (H : Heap) (nx : Nat) (k : KC Y) (E : Env) (fp : Fp) (w : World) (cargs : Array Value), inl Y g args H nx k = some y →
    Sim C.RT E H fp w → Fresh E nx → All2 (RV C.RT E) args cargs.toList → enters C.P g = true ∧ Went C g cargs w E H fp nx k y
def ExtOK (P : Program) (g : Nat) : Prop := ∀ (x y c : Int) (w : World), 0 ≤ x → 0 ≤ y → 0 ≤ c → c ≤ 1 →
  (callFunc g #[.int .u64 x, .int .u64 y, .int .u64 c]).run P w = .ok (.value (.tuple #[.int .u64 ((x + y + c) % 18446744073709551616), .int .u64 ((x + y + c) / 18446744073709551616)])) w
theorem findL_mem : ∀ {l : List (Nat × (List AV → Option Bool))} {f : Nat} {φ : List AV → Option Bool}, findL l f = some φ → (f, φ) ∈ l
  | [], _, _, h => by simp [findL] at h
  | (g, s) :: r, f, φ, h => by
    simp only [findL] at h
    split at h
    · rename_i hb
      simp only [Option.some.injEq] at h
      subst h
      rw [Nat.eq_of_beq_eq_true hb]
      exact List.mem_cons_self ..
    · exact List.mem_cons_of_mem _ (findL_mem h)
def LawOK (P : Program) (RT : RoTab) (g : Nat) (φ : List AV → Option Bool) : Prop :=
  ∀ (args : List AV) (b : Bool) (E : Env) (w : World) (cargs : Array Value), φ args = some b → Sim RT E noHeap (fun _ _ => False) w → (∀ id, E.info id = none) → All2 (RV RT E) args cargs.toList →
    Calls P g cargs w fun e w' => e = .returned (.bool b) ∧ Frm w (fun _ => False) w'
theorem loose_RV {E' : Env} {RT : RoTab} (hRT : RTok RT) (hM : ∀ ad v, E.M ad = some v → E'.M ad = some v) {a : AV} {u : Value} (hl : looseA a = true) (h : RV RT E a u) : RV RT E' a u := by
  unfold looseA at hl
  split at hl
  · have h' : R RT E _ u := h
    exact R.simple (RT := RT) hM trivial h'
  · have h' : R RT E _ u := h
    exact R.simple (RT := RT) hM trivial h'
  · have h' : R RT E _ u := h
    exact R.simple (RT := RT) hM trivial h'
  · have h' : R RT E _ u := h
    show R RT E' _ u
    cases h' with
    | ror u hT hc hx hr =>
      exact R.ror u hT hc (fun i j hi hj => let ⟨a, h1, h2, h3⟩ := hx i j hi hj; ⟨a, h1, h2, hM _ _ h3⟩) (fun i j hi hj => R.simple hM (hRT _ _ i j hT) (hr i j hi hj))
  · simp at hl
theorem loose_all {E' : Env} {RT : RoTab} (hRT : RTok RT) (hM : ∀ ad v, E.M ad = some v → E'.M ad = some v) : ∀ {as : List AV} {us : List Value}, looseAs as = true → All2 (RV RT E) as us → All2 (RV RT E') as us
  | [], _, _, .nil => .nil
  | a :: as, u :: us, hl, .cons h hs => by
    simp only [looseAs, Bool.and_eq_true] at hl
    exact .cons (loose_RV hRT hM hl.1 h) (loose_all hRT hM hl.2 hs)
def MethOK (P : Program) (m : Nat × List Nat × Nat) : Prop := ∀ (name : String) (v : Value) (args : Array Value) (w : World), nameNums name = m.2.1 →
  (callMethod (.iface m.1 v) name args).run P w = (callFunc m.2.2 (#[v] ++ args)).run P w
theorem eqNs_eq : ∀ {xs ys : List Nat}, eqNs xs ys = true → xs = ys
  | [], [], _ => rfl
  | x :: xs, y :: ys, h => by
    simp only [eqNs] at h
    split at h
    · rename_i hb
      rw [Nat.eq_of_beq_eq_true hb, eqNs_eq h]
    · simp at h
  | [], _ :: _, h => by simp [eqNs] at h
  | _ :: _, [], h => by simp [eqNs] at h
theorem findM_mem : ∀ {l : List (Nat × List Nat × Nat)} {t : Nat} {n : List Nat} {f : Nat}, findM l t n = some f → (t, n, f) ∈ l
  | [], _, _, _, h => by simp [findM] at h
  | (t, n, f) :: r, t', n', f', h => by
    simp only [findM] at h
    split at h
    · rename_i h1 h2
      simp only [Option.some.injEq] at h
      rw [← Nat.eq_of_beq_eq_true h1, ← eqNs_eq h2, ← h]
      exact List.mem_cons_self ..
    · exact List.mem_cons_of_mem _ (findM_mem h)
structure CfgOK (C : Cfg) : Prop where
  rt : RTok C.RT
  wide : C.P.follows .mixedOrders = true
  specs : ∀ q ∈ C.specs, CallOK C.P q.1 q.2 ∧ enters C.P q.1 = true
  exts : ∀ g ∈ C.exts, ExtOK C.P g
  meths : ∀ m ∈ C.meths, MethOK C.P m
  laws : ∀ q ∈ C.laws, LawOK C.P C.RT q.1 q.2 ∧ enters C.P q.1 = true
theorem atsA_all2 : ∀ {cap : List Atom} {us : List Value}, All2 (R RT E) cap us → All2 (RV RT E) (atsA cap) us
  | [], [], _ => .nil
  | _ :: _, _ :: _, .cons h hs => .cons (r := RV RT E) h (atsA_all2 hs)
theorem appA_all2 : ∀ {args : List AV} {vs : List Value} {cap : List Atom} {us : List Value}, All2 (RV RT E) args vs → All2 (R RT E) cap us → All2 (RV RT E) (appA args cap) (vs ++ us)
  | [], [], _, _, _, h => by simpa [appA] using atsA_all2 h
  | _ :: _, _ :: _, _, _, .cons h hs, h2 => by
    simp only [appA]
    exact .cons h (appA_all2 hs h2)
theorem all2_of {α β : Type} {r : α → β → Prop} {d : β} : ∀ {as : List α} {bs : List β}, as.length = bs.length → (∀ j x, as[j]? = some x → r x (bs.getD j d)) → All2 r as bs
  | [], [], _, _ => .nil
  | x :: as, z :: bs, hl, h => .cons (by simpa using h 0 x rfl) (all2_of (by simpa using hl) fun j x hj => by simpa using h (j + 1) x (by simpa using hj))
  | [], _ :: _, hl, _ => by simp at hl
  | _ :: _, [], hl, _ => by simp at hl
theorem args_all2 (hF : RF RT E F a) (l : Array Operand) : All2 (RV RT E) (argsA F l.toList) (l.map a.eval).toList := by
  obtain ⟨g1, g2⟩ := argsA_get hF l.toList
  refine all2_of (d := undef) (by simp [g1]) fun j x hj => ?_
  simpa using g2 j x hj
theorem evCall_sound {C : Cfg} (hC : CfgOK C) {inl : Inl} (hinl : InlOK C inl) {nx : Nat} {f : AV} {uf : Value} {args : List AV} {cargs : Array Value} {k : KC Y} (hs : Sim C.RT E H fp w) (hf : Fresh E nx)
    (hfv : RV C.RT E f uf) (ha : All2 (RV C.RT E) args cargs.toList) (hk : evCall C inl H nx f args k = some y) :
    ∃ g vs, uf = .func (.func g) #[] vs ∧ ((enters C.P g = true ∧ Went C g (cargs ++ vs) w E H fp nx k y) ∨
      ∃ u v, (callFunc g (cargs ++ vs)).run C.P w = .ok (.value u) w ∧ k v H nx = some y ∧ RV C.RT E v u) := by
  unfold evCall at hk
  split at hk
  · rename_i g cap
    have hfv' : R C.RT E (.fn (.func g) cap) uf := hfv
    cases hfv' with
    | fn hn hr =>
      rename_i vs
      have hcap : All2 (R C.RT E) cap vs.toList := all2_of (d := undef) (by simp [hn]) fun j x hj => by
        have := hr j x hj
        simpa [Array.getD_eq_getD_getElem?, List.getD_eq_getElem?_getD] using this
      have hall : All2 (RV C.RT E) (appA args cap) (cargs ++ vs).toList := by
        rw [Array.toList_append]
        exact appA_all2 ha hcap
      refine ⟨g, vs, rfl, ?_⟩
      split at hk
      · rename_i φ hfl
        obtain ⟨h1, h2⟩ := hC.laws _ (findL_mem hfl)
        rw [gate_some, obind_some] at hk
        obtain ⟨hl, b, hφ, hk⟩ := hk
        have hs0 : Sim C.RT ⟨fun _ => none, E.M⟩ noHeap (fun _ _ => False) w :=
          ⟨fun id b hb => by simp [noHeap] at hb, fun i j b c x hb => by simp [noHeap] at hb, fun ad v h => ⟨(hs.ro ad v h).1, (hs.ro ad v h).2.1, fun i b hb => by simp [noHeap] at hb⟩⟩
        refine Or.inl ⟨h2, Calls.mono (h1 _ b ⟨fun _ => none, E.M⟩ w _ hφ hs0 (fun _ => rfl) (loose_all (E := E) (E' := ⟨fun _ => none, E.M⟩) hC.rt (fun _ _ h => h) hl hall)) ?_⟩
        rintro e w' ⟨rfl, hF⟩
        exact ⟨_, E, H, fp, nx, _, rfl, hk, R.bool _, hs.frm hF (fun _ _ h => h) (fun _ _ _ h => h), ⟨.refl E, hF.mono fun _ h => h.elim, fun _ h _ => h, Nat.le_refl _, hf, .refl _ _ _ _⟩⟩
      split at hk
      · rename_i s hfind
        obtain ⟨h1, h2⟩ := hC.specs _ (pick_mem hfind)
        exact Or.inl ⟨h2, callSpec_sound h1 hC.rt hs hf hall hk⟩
      · split at hk
        · rename_i hext
          right
          have hx := hC.exts g (mem_iff.1 hext)
          unfold evExt at hk
          split at hk
          · rename_i x z c hargs
            rw [chk_some] at hk
            obtain ⟨⟨h0, h1, h2, h3⟩, hk⟩ := hk
            rw [hargs] at hall
            generalize hus : cargs ++ vs = us at hall
            obtain ⟨usl⟩ := us
            cases hall with
            | cons r1 q1 =>
              cases q1 with
              | cons r2 q2 =>
                cases q2 with
                | cons r3 q3 =>
                  cases q3
                  obtain rfl := R.int_inv r1
                  obtain rfl := R.int_inv r2
                  obtain rfl := R.int_inv r3
                  refine ⟨_, _, hx x z c w h0 h1 h2 h3, hk, _, rfl, rfl, fun j p hj => ?_⟩
                  match j with
                  | 0 => simp at hj; subst hj; exact R.int _ _
                  | 1 => simp at hj; subst hj; exact R.int _ _
                  | j + 2 => simp at hj
          · simp at hk
        · exact Or.inl (hinl Y y g _ H nx k E fp w _ hk hs hf hall)
  · simp at hk
theorem evC_sound {C : Cfg} (hC : CfgOK C) {inl : Inl} (hinl : InlOK C inl) {nx : Nat} {o : Oper} {k : KC Y} (hs : Sim C.RT E H fp w) (hf : Fresh E nx) (hF : RF C.RT E F a)
    (hk : evC C inl H nx F o.op k = some y) {Q : Exit → Act → World → Prop} {next : Act → World → Prop}
    (hnext : ∀ v u H' nx' E' fp' w', k v H' nx' = some y → RV C.RT E' v u → Sim C.RT E' H' fp' w' → Step E H fp w nx E' H' fp' w' nx' → next (a.put o.dst u) w') :
    o.wp C.P a w next Q := by
  unfold evC at hk
  unfold Oper.wp execOp
  have lift : ∀ (s : Sem Value) (u : Value) (w' : World), s.run C.P w = .ok u w' → (do pure (.value (← s)) : Sem Next).run C.P w = .ok (.value u) w' := by
    intro s u w' h
    simp only [Sem.run_bind, h, Result.andThen_ok, Sem.run_pure]
  split at hk
  · rename_i e ho
    simp only [ho]
    split at hk
    · rename_i z hz
      obtain ⟨E', fp', u, w', h1, h2, h3, h4⟩ := alloc_sound (P := C.P) hs hf hz
      rw [lift _ _ _ h1]
      exact hnext _ _ _ _ _ _ _ hk h2 h3 h4
    · simp at hk
  · rename_i e x ho
    simp only [ho]
    rw [gate_some] at hk
    obtain ⟨hg, hk⟩ := hk
    obtain ⟨E', fp', u, w', h1, h2, h3, h4⟩ := box_sound (P := C.P) (e := e) hs hf (opd_sound hF x) hg
    rw [lift _ _ _ h1]
    exact hnext _ _ _ _ _ _ _ hk h2 h3 h4
  · rename_i t n parts ho
    simp only [ho]
    have hp := parts_sound hF parts.toList
    have hp' : All2 (fun (p : Nat × AV) (q : Nat × Value) => p.1 = q.1 ∧ RV C.RT E p.2 q.2) (partsA F parts.toList) (parts.map fun (i, x) => (i, a.eval x)).toList := by
      simpa using hp
    obtain ⟨v, H', nx', E', fp', u, w', h1, h2, h3, h4, h5⟩ := buildSlice_sound (P := C.P) hs hf hp' hk
    rw [lift _ _ _ h2]
    exact hnext _ _ _ _ _ _ _ h1 h3 h4 h5
  · rename_i t l c ho
    simp only [ho]
    obtain ⟨v, H', nx', E', fp', u, w', h1, h2, h3, h4, h5⟩ := make_sound (P := C.P) hs hf (opd_sound hF l) (opd_sound hF c) hk
    rw [lift _ _ _ h2]
    exact hnext _ _ _ _ _ _ _ h1 h3 h4 h5
  · rename_i t ad x ho
    simp only [ho]
    split at hk
    · rename_i at' hat
      have hx : RV C.RT E (evOpd F ad) (a.eval ad) := opd_sound hF ad
      rw [hat] at hx
      obtain ⟨H', w', h1, h2, h3, h4⟩ := store_sound (P := C.P) hs hf hx (opd_sound hF x) hk
      have : (do Instr.storeAt t (a.eval ad) (a.eval x); pure .skip : Sem Next).run C.P w = .ok .skip w' := by
        simp only [Sem.run_bind, h2, Result.andThen_ok, Sem.run_pure]
      rw [this]
      exact hnext _ undef _ _ _ _ _ h1 (R.unk _) h3 h4
    · simp at hk
  · rename_i c ho
    simp only [ho]
    have hres : ∀ b, c.callee = .builtin b → (do let d ← resolve a.eval c o.type; invoke d.target d.args : Sem Next) =
        builtin b c.argTypes o.type (c.args.map fun | .const _ => true | _ => false) (c.args.map a.eval) := by
      intro b hb
      simp only [resolve, hb]
      rfl
    have hargs := args_all2 hF c.args
    split at hk
    · rename_i f hc
      obtain ⟨g, vs, h1, ⟨h2, h3⟩ | ⟨u, v, h2, h3, h4⟩⟩ := evCall_sound hC hinl hs hf (opd_sound hF f) hargs hk
      · have : (do let d ← resolve a.eval c o.type; invoke d.target d.args : Sem Next).run C.P w = .ok (.enter g (c.args.map a.eval ++ vs)) w := by
          simp only [resolve, hc, Deferred.ofValue, h1, Sem.run_bind, Sem.run_pure, Result.andThen_ok, invoke]
          simpa using run_enter h2
        rw [this]
        refine Calls.mono h3 ?_
        rintro e w' ⟨u, E', H', fp', nx', v, rfl, g1, g2, g3, g4⟩
        exact hnext _ _ _ _ _ _ _ g1 g2 g3 g4
      · have : (do let d ← resolve a.eval c o.type; invoke d.target d.args : Sem Next).run C.P w = .ok (.value u) w := by
          simp only [resolve, hc, Deferred.ofValue, h1, Sem.run_bind, Sem.run_pure, Result.andThen_ok, invoke]
          simpa using h2
        rw [this]
        exact hnext _ _ _ _ _ _ _ h3 h4 hs (Step.refl hf)
    · rename_i x name hc
      unfold evInv at hk
      split at hk
      · rename_i t xa hx
        split at hk
        · rename_i f hfm
          have hxv : RV C.RT E (evOpd F x) (a.eval x) := opd_sound hF x
          rw [hx] at hxv
          have hxr : R C.RT E (.iface t false [xa]) (a.eval x) := hxv
          obtain ⟨v, hv, hr⟩ := R.iface_inv hxr
          have hall : All2 (RV C.RT E) (.at xa :: argsA F c.args.toList) (#[v] ++ c.args.map a.eval).toList := by
            rw [Array.toList_append]
            exact .cons (r := RV C.RT E) hr hargs
          have hme := hC.meths _ (findM_mem hfm) name v (c.args.map a.eval) w rfl
          have hfv : RV C.RT E (.at (.fn (.func f) [])) (.func (.func f) #[] #[]) := R.fn rfl (fun j z hj => by simp at hj)
          have hinv : (do let d ← resolve a.eval c o.type; invoke d.target d.args : Sem Next).run C.P w = (callFunc f (#[v] ++ c.args.map a.eval)).run C.P w := by
            rw [← hme]
            have g0 : (#[Value.iface t v] ++ c.args.map a.eval)[0]? = some (.iface t v) := by
              rw [Array.getElem?_append_left (by simp)]
              rfl
            have g1 : (#[Value.iface t v] ++ c.args.map a.eval).extract 1 (#[Value.iface t v] ++ c.args.map a.eval).size = c.args.map a.eval := by
              rw [Array.extract_append]
              simp
            simp only [resolve, hc, Sem.run_bind, Sem.run_pure, Result.andThen_ok, invoke, hv, g0, g1]
          obtain ⟨g, vs, h1, ⟨h2, h3⟩ | ⟨u, v', h2, h3, h4⟩⟩ := evCall_sound hC hinl hs hf hfv hall hk
          · simp only [Value.func.injEq, Fn.func.injEq, true_and] at h1
            obtain ⟨rfl, rfl⟩ := h1
            have : (do let d ← resolve a.eval c o.type; invoke d.target d.args : Sem Next).run C.P w = .ok (.enter f (#[v] ++ c.args.map a.eval)) w := by
              rw [hinv]
              exact run_enter h2
            rw [this]
            simp only [Array.append_empty] at h3
            refine Calls.mono h3 ?_
            rintro e w' ⟨u, E', H', fp', nx', v', rfl, g1, g2, g3, g4⟩
            exact hnext _ _ _ _ _ _ _ g1 g2 g3 g4
          · simp only [Value.func.injEq, Fn.func.injEq, true_and] at h1
            obtain ⟨rfl, rfl⟩ := h1
            simp only [Array.append_empty] at h2
            rw [hinv, h2]
            exact hnext _ _ _ _ _ _ _ h3 h4 hs (Step.refl hf)
        · simp at hk
      · simp at hk
    · rename_i hc
      rw [hres _ hc]
      split at hk
      · rename_i s x t t2 hal htl
        have hts : c.argTypes = #[t, t2] := by apply Array.ext'; simpa using htl
        rw [hal] at hargs
        generalize hus : (c.args.map a.eval) = us at hargs
        obtain ⟨usl⟩ := us
        cases hargs with
        | cons hr1 h2 =>
          cases h2 with
          | cons hr2 h3 =>
            cases h3
            split at hk
            · rename_i e he
              obtain ⟨v, H', nx', E', fp', u, w', h1, h2, h3, h4, h5⟩ := appendR_sound (P := C.P) (o := o.type) hs hf hr1 hr2 he hk
              have this : ∀ cs, (builtin .append c.argTypes o.type cs (List.toArray [_, _])).run C.P w = .ok (.value u) w' := fun cs => by
                simp only [builtin, hts]
                exact lift _ _ _ h2
              rw [this]
              exact hnext _ _ _ _ _ _ _ h1 h3 h4 h5
            · obtain ⟨v, H', nx', E', fp', u, w', h1, h2, h3, h4, h5⟩ := append_sound (P := C.P) (o := o.type) hs hf hr1 hr2 hk
              have this : ∀ cs, (builtin .append c.argTypes o.type cs (List.toArray [_, _])).run C.P w = .ok (.value u) w' := fun cs => by
                simp only [builtin, hts]
                exact lift _ _ _ h2
              rw [this]
              exact hnext _ _ _ _ _ _ _ h1 h3 h4 h5
      · simp at hk
    · rename_i hc
      rw [hres _ hc]
      split at hk
      · rename_i d s t ts hal htl
        rw [hal] at hargs
        generalize hus : (c.args.map a.eval) = us at hargs
        obtain ⟨usl⟩ := us
        cases hargs with
        | cons hr1 h2 =>
          cases h2 with
          | cons hr2 h3 =>
            cases h3
            obtain ⟨v, H', u, w', h1, h2, h3, h4, h5⟩ := copy_sound (P := C.P) (o := o.type) hs hf hr1 hr2 hk c.argTypes (by rw [← Array.getElem?_toList, htl]; rfl)
            have this : ∀ cs, (builtin .copy c.argTypes o.type cs (List.toArray [_, _])).run C.P w = .ok (.value u) w' := fun cs => by
              simp only [builtin]
              exact lift _ _ _ h2
            rw [this]
            exact hnext _ _ _ _ _ _ _ h1 h3 h4 h5
      · simp at hk
    · simp at hk
  · simp at hk
end Go.Eng
/-
  The engine, part ten: a region in the text's order.
  Conditions: none; nothing is claimed of the program here.
-/
namespace Go.Eng
variable {RT : RoTab} {E : Env} {F : Fr} {a : Act} {H : Heap} {fp : Fp} {w : World} {P : Program} {Y : Type} {y : Y}
structure St (RT : RoTab) (E : Env) (H : Heap) (fp : Fp) (w : World) (F : Fr) (a : Act) (nx n : Nat) : Prop where
  sim : Sim RT E H fp w
  fresh : Fresh E nx
  rf : RF RT E F a
  size : a.tmps.size = n
  df : a.defers = []
structure Trip (C : Cfg) (E : Env) (H : Heap) (fp : Fp) (w : World) (nx : Nat) (E' : Env) (H' : Heap) (fp' : Fp) (w' : World) (nx' : Nat) : Prop where
  keep : ∀ id I, id < C.hi → id ∉ C.mv → E.info id = some I → E'.info id = some I
  M : ∀ a v, E.M a = some v → E'.M a = some v
  frm : Frm w (OwnAll H fp) w'
  own : ∀ x, OwnAll H' fp' x → x.1 < w.heap.size → OwnAll H fp x
  nx : nx ≤ nx'
  fresh : Fresh E' nx'
  ext : MExt E H fp w E'
variable {C : Cfg}
theorem Step.trip {nx : Nat} {E' : Env} {H' : Heap} {fp' : Fp} {w' : World} {nx' : Nat} (h : Step E H fp w nx E' H' fp' w' nx') : Trip C E H fp w nx E' H' fp' w' nx' :=
  ⟨fun id I _ _ hI => h.le.info id I hI, h.le.M, h.frm, h.own, h.nx, h.fresh, h.ext⟩
theorem Trip.refl {nx : Nat} (hf : Fresh E nx) : Trip C E H fp w nx E H fp w nx := (Step.refl hf).trip
theorem Trip.trans {E' E'' : Env} {H' H'' : Heap} {fp' fp'' : Fp} {w' w'' : World} {nx nx' nx'' : Nat}
    (h : Trip C E H fp w nx E' H' fp' w' nx') (k : Trip C E' H' fp' w' nx' E'' H'' fp'' w'' nx'') : Trip C E H fp w nx E'' H'' fp'' w'' nx'' where
  keep := fun id I h1 h2 hI => k.keep id I h1 h2 (h.keep id I h1 h2 hI)
  M := fun a v ha => k.M a v (h.M a v ha)
  frm := h.frm.trans k.frm h.own
  own := fun x hx hlt => h.own x (k.own x hx (Nat.lt_of_lt_of_le hlt h.frm.size)) hlt
  nx := Nat.le_trans h.nx k.nx
  fresh := k.fresh
  ext := h.ext.trans k.ext h.frm.size h.own
def Same (g : Nat → Bool) (a a' : Act) : Prop := ∀ j, g j = false → a'.tmps.getD j undef = a.tmps.getD j undef
theorem Same.refl (g : Nat → Bool) (a : Act) : Same g a a := fun _ _ => rfl
theorem Same.trans {g : Nat → Bool} {a a' a'' : Act} (h : Same g a a') (k : Same g a' a'') : Same g a a'' := fun j hj => (k j hj).trans (h j hj)
theorem Same.mono {g g' : Nat → Bool} {a a' : Act} (h : Same g a a') (hg : ∀ j, g j = true → g' j = true) : Same g' a a' := fun j hj => h j (by
  cases hb : g j with
  | false => rfl
  | true => rw [hg j hb] at hj; simp at hj)
theorem Same.put (a : Act) (d : Option Tmp) (v : Value) : Same (fun j => eqO d (some j)) a (a.put d v) := by
  intro j hj
  cases d with
  | none => rfl
  | some d =>
    simp only [eqO] at hj
    have hne : j ≠ d := fun he => by subst he; simp at hj
    exact getD_set_other hne
theorem named_eq (K : FCfg) (d : Option Tmp) (v : AV) (k : AV → Option Y) : named K d v k = k v := by
  unfold named
  split
  · rfl
  · split
    · rfl
    · split <;> rfl
theorem putF_id (F : Fr) (d : Nat) {v : AV} (h : F d = v) : putF F d v = F := by
  funext j
  rw [putF_eq]
  split
  · rename_i hj; rw [hj, h]
  · rfl
theorem getD_bool {ts : Array Value} {d : Nat} {b : Bool} (h : ts.getD d undef = .bool b) : ts[d]? = some (.bool b) := by
  cases ht : ts[d]? with
  | none => simp [Array.getD_eq_getD_getElem?, ht, undef] at h
  | some v => simp [Array.getD_eq_getD_getElem?, ht] at h; rw [h]
theorem R.und_inv {v : Value} (h : R RT E .und v) : v = undef := by cases h; rfl
theorem yielded_und {ops : Array Oper} {ts : Array Value} {g d : Nat} (hd : dstAt ops.toList g = some d) (h : ts.getD d undef = undef) : yielded ops ts g = none := by
  unfold dstAt at hd
  split at hd
  · rename_i og hog
    rw [nth_eq] at hog
    have : ops[g]? = some og := by simpa using hog
    simp only [yielded, this, Option.bind_some, hd]
    cases ht : ts[d]? with
    | none => rfl
    | some v =>
      simp [Array.getD_eq_getD_getElem?, ht] at h
      subst h
      rfl
  · simp at hd
theorem evGuard_sound {ops : Array Oper} {o : Oper} {yes no : Fr → Option Y} (hF : ∀ g want d, o.guard = some (g, want) → dstAt ops.toList g = some d → RV RT E (F d) (a.tmps.getD d undef))
    (hk : evGuard ops.toList o F yes no = some y) :
    (Region.wanted o (yielded ops a.tmps) = true ∧ yes F = some y) ∨ (Region.wanted o (yielded ops a.tmps) = false ∧ no F = some y) := by
  unfold evGuard at hk
  split at hk
  · rename_i hg
    exact Or.inl ⟨by simp [Region.wanted, hg], hk⟩
  · rename_i g want hg
    split at hk
    · simp at hk
    · rename_i d hd
      have hv := hF g want d hg hd
      split at hk
      · rename_i b hb
        rw [hb] at hv
        have hv' : R RT E (.bool b) (a.tmps.getD d undef) := hv
        have hv2 := getD_bool (R.bool_inv hv')
        have hy : yielded ops a.tmps g = some b := by
          unfold dstAt at hd
          split at hd
          · rename_i og hog
            rw [nth_eq] at hog
            have : ops[g]? = some og := by simpa using hog
            simp [yielded, this, hd, hv2]
          · simp at hd
        cases b with
        | true =>
          simp only [br] at hk
          rw [putF_id F d hb] at hk
          cases want with
          | true => exact Or.inl ⟨by simp [Region.wanted, hg, hy], hk⟩
          | false => exact Or.inr ⟨by simp [Region.wanted, hg, hy], hk⟩
        | false =>
          simp only [br] at hk
          rw [putF_id F d hb] at hk
          cases want with
          | true => exact Or.inr ⟨by simp [Region.wanted, hg, hy], hk⟩
          | false => exact Or.inl ⟨by simp [Region.wanted, hg, hy], hk⟩
      · rename_i hb
        rw [hb] at hv
        have hv' : R RT E .und (a.tmps.getD d undef) := hv
        exact Or.inr ⟨by simp [Region.wanted, hg, yielded_und hd (R.und_inv hv')], hk⟩
      · simp at hk
theorem evOne_sound (hC : CfgOK C) {inl : Inl} (hinl : InlOK C inl) {K : FCfg} {nx : Nat} {o : Oper} {k : AV → KS Y} (hs : Sim C.RT E H fp w) (hf : Fresh E nx) (hF : RF C.RT E F a)
    (hk : evOne C K inl o H F H nx k = some y) {Q : Exit → Act → World → Prop} {next : Act → World → Prop}
    (hnext : ∀ v u H' nx' E' fp' w', k v (putO F o.dst v) H' nx' = some y → RV C.RT E' v u → Sim C.RT E' H' fp' w' → Step E H fp w nx E' H' fp' w' nx' → next (a.put o.dst u) w') :
    o.wp C.P a w next Q := by
  unfold evOne at hk
  split at hk
  · simp only [named_eq] at hk
    exact evC_sound hC hinl hs hf hF hk hnext
  · split at hk
    · obtain ⟨v, E', u, w', h1, h2, h3, h4, h5⟩ := lit_sound hs hf hF hk
      unfold Oper.wp
      rw [h2]
      exact hnext _ _ _ _ _ _ _ h1 h3 h4 h5
    · simp only [named_eq] at hk
      obtain ⟨v, u, h1, h2, h3⟩ := evR_sound hF hs hk
      unfold Oper.wp
      rw [h2]
      exact hnext _ _ _ _ _ _ _ h1 h3 hs (Step.refl hf)
theorem both_some {a b : Option Y} (h : both a b = some y) : a = some y ∧ b = some y := by
  unfold both at h
  split at h
  · split at h
    · rename_i he; simp at h; subst h; subst he; exact ⟨rfl, rfl⟩
    · simp at h
  · simp at h
theorem nilN_some {n : Nat} {a b : Option Y} (h : nilN n a b = some y) : b = some y ∧ (n = 0 → a = some y) := by
  cases n with
  | zero => exact ⟨(both_some h).2, fun _ => (both_some h).1⟩
  | succ n => exact ⟨h, fun h0 => by simp at h0⟩
theorem nilN_of {n : Nat} {a b : Option Y} (ha : n = 0 → a = some y) (hb : b = some y) : nilN n a b = some y := by
  cases n with
  | zero => simp [nilN, both, ha rfl, hb]
  | succ n => exact hb
theorem equalIn_sl (d : Nat) {t e : TypeId} {n c : Nat} {b : Option Addr} (h : P.underlying t = some (.slice e)) : (Op.equalIn (d + 1) t (.slice b n c) (.slice none 0 0)).run P w = .ok b.isNone w := by
  cases b <;> simp [Op.equalIn, run_und h]
theorem mayNil_base {x : Atom} {base : Option Addr} {n cap : Nat} (hs : Sim RT E H fp w) (hx : R RT E x (.slice base n cap)) (h : mayNil x = true) : base = none → n = 0 := by
  intro hb0
  subst hb0
  cases hx with
  | full h hb hn hc hg => rcases hb with hb | hb; · simp at hb
                          exact hb.1
  | sub h hw hl hc hb => rcases hb with hb | hb; · simp at hb
                         exact hb
  | roi hc hx =>
    rename_i k xs
    cases xs with
    | nil => rfl
    | cons y ys => obtain ⟨a, ha, _⟩ := hx 0 (by simp); simp at ha
  | _ => simp [mayNil] at h
theorem R.nils_inv {v : Value} (h : R RT E .nils v) : v = .slice none 0 0 := by cases h; rfl
theorem nilT_sound {o : Oper} {n : Nat} {neg : Bool} {k : AV → Option Y} (hF : RF RT E F a) (hs : Sim RT E H fp w) (h : nilT P RT H F o.op = some (n, neg))
    (hk : nilN n (k (.at (.bool (!neg)))) (k (.at (.bool neg))) = some y) : ∃ v u, k v = some y ∧ (execOp a.eval o).run P w = .ok (.value u) w ∧ RV RT E v u := by
  obtain ⟨hk0, hk1⟩ := nilN_some hk
  unfold nilT at h
  unfold execOp
  split at h
  · rename_i t x z ge ho
    simp only [ho]
    split at h
    · rename_i e x' hu hx hz
      split at h
      · rename_i n' hm hl
        simp only [Option.some.injEq, Prod.mk.injEq] at h
        obtain ⟨rfl, rfl⟩ := h
        have hxv := opd_sound hF x
        have hzv := opd_sound hF z
        rw [hx] at hxv
        rw [hz] at hzv
        have hxv' : R RT E x' (a.eval x) := hxv
        have hzv' : R RT E .nils (a.eval z) := hzv
        obtain ⟨base, cap, h1, _⟩ := lenA_sound hs hxv' hl
        have h2 : a.eval z = .slice none 0 0 := R.nils_inv hzv'
        rw [h1] at hxv' ⊢
        rw [h2]
        have hb := mayNil_base hs hxv' hm
        have hg : (eqGuard .eql t x z (.slice base n' cap) (.slice none 0 0)).run P w = .ok () w := eqGuard_run (by simp)
        refine ⟨.at (.bool base.isNone), .bool base.isNone, ?_, ?_, R.bool _⟩
        · cases base with
          | none => exact hk1 (hb rfl)
          | some ad => exact hk0
        · simp only [Sem.run_bind, hg, Result.andThen_ok, eql_of (equalIn_sl 9999 hu) rfl, Sem.run_pure]
      · simp at h
    · simp at h
  · rename_i t x z ge ho
    simp only [ho]
    split at h
    · rename_i e x' hu hx hz
      split at h
      · rename_i n' hm hl
        simp only [Option.some.injEq, Prod.mk.injEq] at h
        obtain ⟨rfl, rfl⟩ := h
        have hxv := opd_sound hF x
        have hzv := opd_sound hF z
        rw [hx] at hxv
        rw [hz] at hzv
        have hxv' : R RT E x' (a.eval x) := hxv
        have hzv' : R RT E .nils (a.eval z) := hzv
        obtain ⟨base, cap, h1, _⟩ := lenA_sound hs hxv' hl
        have h2 : a.eval z = .slice none 0 0 := R.nils_inv hzv'
        rw [h1] at hxv' ⊢
        rw [h2]
        have hb := mayNil_base hs hxv' hm
        have hg : (eqGuard .neq t x z (.slice base n' cap) (.slice none 0 0)).run P w = .ok () w := eqGuard_run (by simp)
        refine ⟨.at (.bool !base.isNone), .bool !base.isNone, ?_, ?_, R.bool _⟩
        · cases base with
          | none => exact hk1 (hb rfl)
          | some ad => exact hk0
        · simp only [Sem.run_bind, hg, Result.andThen_ok, neq_of (equalIn_sl 9999 hu) rfl, Sem.run_pure]
      · simp at h
    · simp at h
  · simp at h
open Classical in
noncomputable def frzE (E : Env) (fp : Fp) (w : World) (id : Nat) : Env :=
  ⟨E.info, fun ad => match E.M ad with
    | some v => some v
    | none => if ad.spot = none ∧ fp id (ad.block, ad.off) then w.cell? ad else none⟩
theorem frz_le (id : Nat) : E.Le (frzE E fp w id) := ⟨fun _ _ h => h, fun ad v h => by simp only [frzE, h]⟩
theorem frz_M {id : Nat} {ad : Addr} {v : Value} (h : (frzE E fp w id).M ad = some v) : E.M ad = some v ∨ (ad.spot = none ∧ fp id (ad.block, ad.off) ∧ w.cell? ad = some v) := by
  simp only [frzE] at h
  split at h
  · rename_i u hu; simp only [Option.some.injEq] at h; subst h; exact Or.inl hu
  · split at h
    · rename_i hc; exact Or.inr ⟨hc.1, hc.2, h⟩
    · simp at h
theorem frz_sound {v : AV} {u : Value} {nx : Nat} {k : AV → Heap → Option Y} (hs : Sim RT E H fp w) (hf : Fresh E nx) (hv : RV RT E v u) (hk : frzA v H k = some y) :
    ∃ v' H' E', k v' H' = some y ∧ RV RT E' v' u ∧ Sim RT E' H' fp w ∧ Step E H fp w nx E' H' fp w nx := by
  unfold frzA at hk
  split at hk
  · rename_i id nn
    split at hk
    · rename_i g kd xs hb
      have hsub : ∀ i b, putH H id none i = some b → H i = some b ∧ i ≠ id := by
        intro i b h
        rw [putH_eq] at h
        split at h
        · simp at h
        · rename_i hne; exact ⟨h, hne⟩
      refine ⟨_, _, frzE E fp w id, hk, ?_, ⟨fun i b h => ?_, fun i j b c x h1 h2 hij hx => hs.disj i j b c x (hsub i b h1).1 (hsub j c h2).1 hij hx, fun ad v h => ?_⟩, ⟨frz_le id, .refl w _, fun x ⟨i, b, h1, h2⟩ _ => ⟨i, b, (hsub i b h1).1, h2⟩, Nat.le_refl _, fun i hi => hf i hi, fun ad v h => ?_⟩⟩
      · have hv' : R RT E (.full id nn) u := hv
        obtain ⟨I, hI, ok⟩ := hs.blk _ _ hb
        obtain ⟨k1, k2, k3, k4⟩ := ok.kind
        have hcap := ok.cap
        cases hv' with
        | full h hbase hn hc hg =>
          rename_i cap J base
          rw [hI] at h
          obtain rfl := Option.some.inj h
          show R RT (frzE E fp w id) (.roi kd xs) _
          rw [k2]
          refine R.roi (by omega) fun i hi => ?_
          rcases hbase with hbase | ⟨h0, _⟩
          · refine ⟨_, hbase, rfl, ?_⟩
            have hcell := k4 i hi
            have hown : fp id (I.cb, I.coff + i) := (ok.own _).2 ⟨rfl, by simp, by simp only [k1]; split <;> omega⟩
            simp only [frzE]
            split
            · rename_i u' hu'
              obtain ⟨_, _, h3⟩ := hs.ro _ _ hu'
              exact absurd hown (h3 id _ hb)
            · rw [if_pos ⟨rfl, hown⟩]
              exact hcell
          · omega
      · obtain ⟨I, hI, ok⟩ := hs.blk i b (hsub i b h).1
        exact ⟨I, hI, ok.mono (frz_le id)⟩
      · rcases frz_M h with h | ⟨h1, h2, h3⟩
        · obtain ⟨g1, g2, g3⟩ := hs.ro ad v h
          exact ⟨g1, g2, fun i b hb' => g3 i b (hsub i b hb').1⟩
        · exact ⟨h1, h3, fun i b hb' => hs.disj id i _ b _ hb (hsub i b hb').1 (Ne.symm (hsub i b hb').2) h2⟩
      · rcases frz_M h with h | ⟨h1, h2, h3⟩
        · exact Or.inl h
        · exact Or.inr (Or.inr ⟨id, _, hb, h2⟩)
    · simp at hk
  · simp at hk
theorem emp_sound {nx : Nat} {T : RecT} {v : AV} {u : Value} {k : AV → Heap → Nat → Option Y} (hs : Sim RT E H fp w) (hf : Fresh E nx) (hv : RV RT E v u) (hk : empA T v H nx k = some y) :
    ∃ v' H' nx' E' fp', k v' H' nx' = some y ∧ RV RT E' v' u ∧ Sim RT E' H' fp' w ∧ Step E H fp w nx E' H' fp' w nx' := by
  unfold empA at hk
  split at hk
  · have hv' : R RT E .nils u := hv
    have hu : u = .slice none 0 0 := by cases hv'; rfl
    subst hu
    have hno : ∀ x, ¬ Own ⟨0, 0, 0, 0, recW T, true⟩ x := fun x hx => by
      obtain ⟨_, h1, h2⟩ := hx
      simp only [if_true, Nat.zero_mul] at h2
      omega
    have hadd := Sim.add (nx := nx) (b := .recs true T []) (I := ⟨0, 0, 0, 0, recW T, true⟩) (w' := w) (O := fun _ => False) hs (hf _ (Nat.le_refl _)) (Frm.refl w _) (fun _ _ h => h) (fun _ _ _ h => h)
      ⟨fun _ => Iff.rfl, Nat.le_refl _, fun x hx => absurd hx (hno x), rfl, rfl, fun _ => rfl, fun i j x hi => by simp at hi⟩ (fun x hx => absurd hx (hno x))
    refine ⟨_, _, _, _, _, hk, ?_, hadd, Step.add hf (fun _ _ h => h) (Frm.refl w _) (fun x hx => absurd hx (hno x))⟩
    exact R.full (I := ⟨0, 0, 0, 0, recW T, true⟩) (by simp [putI]) (Or.inr ⟨rfl, fun _ => rfl⟩) (fun h => by simp at h) (Nat.le_refl _) (fun _ => rfl)
  · exact ⟨_, _, _, _, _, hk, hv, hs, Step.refl hf⟩
theorem putO_put (F : Fr) (d : Option Tmp) (v v' : AV) : putO (putO F d v) d v' = putO F d v' := by
  cases d with
  | none => rfl
  | some d =>
    funext j
    simp only [putO, putF_eq]
    split <;> rfl
theorem evOneN_sound (hC : CfgOK C) {inl : Inl} (hinl : InlOK C inl) {K : FCfg} {nx : Nat} {o : Oper} {k : AV → KS Y} (hs : Sim C.RT E H fp w) (hf : Fresh E nx) (hF : RF C.RT E F a)
    (hk : evOneN C K inl o F H nx k = some y) {Q : Exit → Act → World → Prop} {next : Act → World → Prop}
    (hnext : ∀ v u H' nx' E' fp' w', k v (putO F o.dst v) H' nx' = some y → RV C.RT E' v u → Sim C.RT E' H' fp' w' → Step E H fp w nx E' H' fp' w' nx' → next (a.put o.dst u) w') :
    o.wp C.P a w next Q := by
  unfold evOneN at hk
  split at hk
  · rename_i n neg hn
    obtain ⟨v, u, h1, h2, h3⟩ := nilT_sound (k := fun v => k v (putO F o.dst v) H nx) hF hs hn hk
    unfold Oper.wp
    rw [h2]
    exact hnext _ _ _ _ _ _ _ h1 h3 hs (Step.refl hf)
  · cases hm : memO K.frz o.dst with
    | false =>
      simp only [hm] at hk
      cases he : empT K.emps o.dst with
      | none =>
        simp only [he] at hk
        exact evOne_sound hC hinl hs hf hF hk hnext
      | some T =>
        simp only [he] at hk
        refine evOne_sound hC hinl hs hf hF hk fun v u H' nx' E' fp' w' g1 g2 g3 g4 => ?_
        obtain ⟨v', H2, nx2, E2, fp2, h1, h2, h3, h4⟩ := emp_sound g3 g4.fresh g2 g1
        rw [putO_put] at h1
        exact hnext _ _ _ _ _ _ _ h1 h2 h3 (g4.trans h4)
    | true =>
      simp only [hm] at hk
      refine evOne_sound hC hinl hs hf hF hk fun v u H' nx' E' fp' w' g1 g2 g3 g4 => ?_
      obtain ⟨v', H2, E2, h1, h2, h3, h4⟩ := frz_sound (nx := nx') g3 g4.fresh g2 g1
      rw [putO_put] at h1
      exact hnext _ _ _ _ _ _ _ h1 h2 h3 (g4.trans h4)
theorem asgOps_head {o : Oper} {os : List Oper} {j : Nat} (h : eqO o.dst (some j) = true) : asgOps (o :: os) j = true := by simp [asgOps, h]
theorem asgOps_tail {o : Oper} {os : List Oper} {j : Nat} (h : asgOps os j = true) : asgOps (o :: os) j = true := by simp [asgOps, h]
theorem dstOps_cons {n : Nat} {o : Oper} {os : List Oper} (h : dstOps n (o :: os) = true) : (∀ d, o.dst = some d → d < n) ∧ dstOps n os = true := by
  simp only [dstOps, Bool.and_eq_true] at h
  refine ⟨fun d hd => ?_, h.2⟩
  have := h.1
  rw [hd] at this
  exact blt_iff.1 this
theorem evOps_sound (hC : CfgOK C) {inl : Inl} (hinl : InlOK C inl) {K : FCfg} {ops : Array Oper} {k : KS Y} {n : Nat} {Q : Exit → Act → World → Prop} :
    ∀ {l : List Oper} {F : Fr} {H : Heap} {nx : Nat} {E : Env} {fp : Fp} {w : World} {a : Act}, evOps C K inl ops.toList l F H nx k = some y → St C.RT E H fp w F a nx n → dstOps n l = true →
      (∀ F' H' nx' E' fp' a' w', k F' H' nx' = some y → St C.RT E' H' fp' w' F' a' nx' n → Trip C E H fp w nx E' H' fp' w' nx' → Same (asgOps l) a a' → Q .normal a' w') →
      wpList C.P ops Q l a w
  | [], F, H, nx, E, fp, w, a, hk, st, _, hQ => hQ _ _ _ _ _ _ _ hk st (.refl st.fresh) (.refl _ _)
  | o :: os, F, H, nx, E, fp, w, a, hk, st, hd, hQ => by
    obtain ⟨hd1, hd2⟩ := dstOps_cons hd
    simp only [evOps] at hk
    simp only [wpList]
    rcases evGuard_sound (RT := C.RT) (E := E) (a := a) (fun g want d _ _ => st.rf d) hk with ⟨hw, hk⟩ | ⟨hw, hk⟩
    · rw [if_pos hw]
      refine Or.inl (evOneN_sound hC hinl st.sim st.fresh st.rf hk fun v u H' nx' E' fp' w' g1 g2 g3 g4 => ?_)
      have hst : St C.RT E' H' fp' w' (putO F o.dst v) (a.put o.dst u) nx' n :=
        ⟨g3, g4.fresh, (st.rf.mono g4.le).put (fun t ht => by rw [st.size]; exact hd1 t ht) g2, by rw [Act.put_size]; exact st.size, by cases o.dst <;> exact st.df⟩
      exact evOps_sound hC hinl g1 hst hd2 fun F2 H2 nx2 E2 fp2 a2 w2 q1 q2 q3 q4 =>
        hQ _ _ _ _ _ _ _ q1 q2 (g4.trip.trans q3) (((Same.put a o.dst u).mono fun j hj => asgOps_head hj).trans (q4.mono fun j hj => asgOps_tail hj))
    · rw [if_neg (by simp [hw])]
      have hst : St C.RT E H fp w (putO F o.dst (.at .und)) (a.put o.dst undef) nx n :=
        ⟨st.sim, st.fresh, st.rf.put (fun t ht => by rw [st.size]; exact hd1 t ht) R.und, by rw [Act.put_size]; exact st.size, by cases o.dst <;> exact st.df⟩
      exact evOps_sound hC hinl hk hst hd2 fun F2 H2 nx2 E2 fp2 a2 w2 q1 q2 q3 q4 =>
        hQ _ _ _ _ _ _ _ q1 q2 q3 (((Same.put a o.dst undef).mono fun j hj => asgOps_head hj).trans (q4.mono fun j hj => asgOps_tail hj))
end Go.Eng
/-
  The engine, part eleven: loops.
  Conditions: none; nothing is claimed of the program here.
-/
namespace Go.Eng
variable {RT : RoTab} {E : Env} {F : Fr} {a : Act} {H : Heap} {fp : Fp} {w : World} {P : Program} {Y : Type} {y : Y} {C : Cfg}
def Post (C : Cfg) {Z : Type} (z : Z) (kr : KS Z) (k : Ex → KS Z) (E : Env) (H : Heap) (fp : Fp) (w : World) (nx : Nat) (a : Act) (n : Nat) (g : Nat → Bool) : Exit → Act → World → Prop
  | .normal, a', w' => ∃ F' H' nx' E' fp', k .normal F' H' nx' = some z ∧ St C.RT E' H' fp' w' F' a' nx' n ∧ Trip C E H fp w nx E' H' fp' w' nx' ∧ Same g a a'
  | .exit id, a', w' => ∃ F' H' nx' E' fp', k (.exit id) F' H' nx' = some z ∧ St C.RT E' H' fp' w' F' a' nx' n ∧ Trip C E H fp w nx E' H' fp' w' nx' ∧ Same g a a'
  | .ret, a', w' => ∃ F' H' nx' E' fp', kr F' H' nx' = some z ∧ St C.RT E' H' fp' w' F' a' nx' n ∧ Trip C E H fp w nx E' H' fp' w' nx' ∧ Same g a a'
  | _, _, _ => False
def CodeOK (C : Cfg) (K : FCfg) (inl : Inl) (c : Code) : Prop :=
  ∀ (Z : Type) (z : Z) (kr : KS Z) (k : Ex → KS Z) (F : Fr) (H : Heap) (nx : Nat) (E : Env) (fp : Fp) (w : World) (a : Act) (n : Nat), evCode C K inl c Z kr k F H nx = some z →
    St C.RT E H fp w F a nx n → dstsOk n c = true → c.wp C.P (Post C z kr k E H fp w nx a n (asg c)) a w
def AnnOK (A : Ann) : Prop := ∀ L Lc : Leaves,
  A.xslots.map (fun q => fAV (A.enc (A.dec L)) Lc q.2) = A.xslots.map (fun q => fAV L Lc q.2) ∧
  A.xblks.map (fun q => fBlk (A.enc (A.dec L)) Lc q.2) = A.xblks.map (fun q => fBlk L Lc q.2)
theorem fSlots_congr {L L' Lc : Leaves} {F0 : Fr} : ∀ {ps : List (Nat × VPat)}, ps.map (fun q => fAV L' Lc q.2) = ps.map (fun q => fAV L Lc q.2) → fSlots L' Lc F0 ps = fSlots L Lc F0 ps
  | [], _ => rfl
  | (t, p) :: r, h => by
    simp only [List.map_cons, List.cons.injEq] at h
    simp only [fSlots]
    rw [h.1, fSlots_congr h.2]
theorem fHeap_congr {L L' Lc : Leaves} {H0 : Heap} : ∀ {ps : List (Nat × BPat)}, ps.map (fun q => fBlk L' Lc q.2) = ps.map (fun q => fBlk L Lc q.2) → fHeap L' Lc H0 ps = fHeap L Lc H0 ps
  | [], _ => rfl
  | (t, p) :: r, h => by
    simp only [List.map_cons, List.cons.injEq] at h
    simp only [fHeap]
    rw [h.1, fHeap_congr h.2]
theorem fSlots_get (L Lc : Leaves) : ∀ (ps : List (Nat × VPat)) (j : Nat), (∃ q ∈ ps, q.1 = j ∧ ∀ F0, fSlots L Lc F0 ps j = fAV L Lc q.2) ∨ (∀ F0, fSlots L Lc F0 ps j = F0 j)
  | [], j => Or.inr fun F0 => rfl
  | (t, p) :: r, j => by
    by_cases h : j = t
    · subst h
      exact Or.inl ⟨(j, p), by simp, rfl, fun F0 => by simp only [fSlots, putF_same]⟩
    · rcases fSlots_get L Lc r j with ⟨q, hq, hj, hv⟩ | hv
      · exact Or.inl ⟨q, by simp [hq], hj, fun F0 => by simp only [fSlots]; rw [putF_other h, hv]⟩
      · exact Or.inr fun F0 => by simp only [fSlots]; rw [putF_other h, hv]
theorem fHeap_over (L Lc : Leaves) : ∀ (ps : List (Nat × BPat)) (t : Nat), (t ∈ ids ps ∧ ∀ H0, fHeap L Lc H0 ps t = fHeap L Lc noHeap ps t) ∨ (t ∉ ids ps ∧ ∀ H0, fHeap L Lc H0 ps t = H0 t)
  | [], t => Or.inr ⟨by simp [ids], fun H0 => rfl⟩
  | (t', p) :: r, t => by
    by_cases h : t = t'
    · subst h
      exact Or.inl ⟨by simp [ids], fun H0 => by simp only [fHeap, putH_same]⟩
    · rcases fHeap_over L Lc r t with ⟨h1, h2⟩ | ⟨h1, h2⟩
      · exact Or.inl ⟨by simp [ids, h1], fun H0 => by simp only [fHeap]; rw [putH_other h, putH_other h, h2]⟩
      · exact Or.inr ⟨by simp [ids, h1, h], fun H0 => by simp only [fHeap]; rw [putH_other h, h2]⟩
theorem viewsOk_get {mov : List Nat} : ∀ {σ : List View} {t i : Nat} {v : View}, viewsOk mov t σ = true → σ[i]? = some v →
    v = .none ∨ v = .whole (t + i) ∨ (t + i ∈ mov ∧ ((∃ id, v = .whole id) ∨ v = .empty))
  | [], t, i, v, _, h => by simp at h
  | v0 :: vs, t, 0, v, h, hv => by
    simp at hv
    subst hv
    cases v0 with
    | none => exact Or.inl rfl
    | whole id =>
      simp only [viewsOk, Bool.and_eq_true, Bool.or_eq_true] at h
      rcases h.1 with h1 | h1
      · have := Nat.eq_of_beq_eq_true h1
        subst this
        exact Or.inr (Or.inl rfl)
      · exact Or.inr (Or.inr ⟨mem_iff.1 h1, Or.inl ⟨id, rfl⟩⟩)
    | empty =>
      simp only [viewsOk, Bool.and_eq_true] at h
      exact Or.inr (Or.inr ⟨mem_iff.1 h.1, Or.inr rfl⟩)
    | part => simp [viewsOk] at h
  | v0 :: vs, t, i + 1, v, h, hv => by
    simp at hv
    have : viewsOk mov (t + 1) vs = true := by cases v0 <;> simp_all [viewsOk]
    have := viewsOk_get this hv
    rwa [show t + 1 + i = t + (i + 1) by omega] at this
theorem wholeIds_mem : ∀ {σ : List View} {t id : Nat}, σ[t]? = some (.whole id) → id ∈ wholeIds σ
  | [], t, id, h => by simp at h
  | v :: vs, 0, id, h => by simp at h; subst h; simp [wholeIds]
  | v :: vs, t + 1, id, h => by
    simp at h
    have := wholeIds_mem h
    cases v <;> simp [wholeIds, this]
theorem viewsIn_get {mov : List Nat} {nx : Nat} : ∀ {σ : List View} {t i : Nat} {v : View}, viewsIn mov nx t σ = true → σ[i]? = some v →
    v = .none ∨ v = .whole (t + i) ∨ (t + i ∈ mov ∧ nx ≤ t + i ∧ (v = .empty ∨ ∃ id, v = .whole id))
  | [], t, i, v, _, h => by simp at h
  | v0 :: vs, t, 0, v, h, hv => by
    simp at hv
    subst hv
    cases v0 with
    | none => exact Or.inl rfl
    | whole id =>
      simp only [viewsIn, Bool.and_eq_true, Bool.or_eq_true] at h
      rcases h.1 with h1 | h1
      · have := Nat.eq_of_beq_eq_true h1
        subst this
        exact Or.inr (Or.inl rfl)
      · exact Or.inr (Or.inr ⟨mem_iff.1 h1.1, by simpa using h1.2, Or.inr ⟨id, rfl⟩⟩)
    | empty =>
      simp only [viewsIn, Bool.and_eq_true] at h
      exact Or.inr (Or.inr ⟨mem_iff.1 h.1, by simpa using h.2.1, Or.inl rfl⟩)
    | part => simp [viewsIn] at h
  | v0 :: vs, t, i + 1, v, h, hv => by
    simp at hv
    have : viewsIn mov nx (t + 1) vs = true := by
      cases v0 with
      | whole id => simp only [viewsIn, Bool.and_eq_true] at h; exact h.2
      | _ => simp_all [viewsIn]
    have := viewsIn_get this hv
    rwa [show t + 1 + i = t + (i + 1) by omega] at this
theorem namedOnly_get {l : List Nat} : ∀ {σ : List View} {t i : Nat} {v : View}, namedOnly l t σ = true → σ[i]? = some v → v = .none ∨ t + i ∈ l
  | [], t, i, v, _, h => by simp at h
  | v0 :: vs, t, 0, v, h, hv => by
    simp at hv
    subst hv
    cases v0 with
    | none => exact Or.inl rfl
    | _ => simp only [namedOnly, Bool.and_eq_true] at h; exact Or.inr (mem_iff.1 h.1)
  | v0 :: vs, t, i + 1, v, h, hv => by
    simp at hv
    have : namedOnly l (t + 1) vs = true := by cases v0 <;> simp_all [namedOnly]
    have := namedOnly_get this hv
    rwa [show t + 1 + i = t + (i + 1) by omega] at this
open Classical in
noncomputable def baseL (E : Env) (H : Heap) (fp : Fp) (w : World) (σ : List View) (lent mov : List Nat) (nx : Nat) : Env where
  info := fun t => if t < nx then (if t ∈ mov then (baseE E H fp w σ lent).info t else E.info t) else none
  M := (baseE E H fp w σ lent).M
theorem baseL_le {σ : List View} {lent mov : List Nat} {nx : Nat} (hlen : σ.length = nx) (hv : ∀ t v, σ[t]? = some v → v = .none ∨ t ∈ mov ∨ v = .whole t) :
    (baseE E H fp w σ lent).Le (baseL E H fp w σ lent mov nx) where
  info := fun t I hI => by
    have ht : t < nx := by
      rcases Nat.lt_or_ge t nx with h | h
      · exact h
      · simp only [baseE] at hI
        rw [List.getElem?_eq_none (by omega)] at hI
        simp at hI
    simp only [baseL, if_pos ht]
    split
    · exact hI
    · rename_i hm
      cases hs : σ[t]? with
      | none => simp [baseE, hs] at hI
      | some v =>
        rw [baseE_info hs] at hI
        rcases hv t v hs with rfl | h | rfl
        · simp [viewInfo] at hI
        · exact absurd h hm
        · exact hI
  M := fun _ _ h => h
theorem Sim.le {E' : Env} (hle : E.Le E') (hM : ∀ a v, E'.M a = some v → E.M a = some v) (hs : Sim RT E H fp w) : Sim RT E' H fp w where
  blk := fun id b hb => let ⟨I, hI, ok⟩ := hs.blk id b hb; ⟨I, hle.info id I hI, ok.mono hle⟩
  disj := hs.disj
  ro := fun a v h => hs.ro a v (hM a v h)
theorem base_rf {L Lc : Leaves} {σ : List View} {lent : List Nat} {slots : List (Nat × VPat)} (hRT : RTok RT) (hs : Sim RT E H fp w) (hF : RF RT E F a)
    (hsl : ∀ q ∈ slots, MatchV H L Lc σ lent q.2 (F q.1)) : RF RT (baseE E H fp w σ lent) (fSlots L Lc noFr slots) a := by
  intro j
  rcases fSlots_get L Lc slots j with ⟨q, hq, rfl, hv⟩ | hv
  · rw [hv]; exact matchV_RV hRT hs (hsl q hq) (hF q.1)
  · rw [hv]; exact R.unk _
structure Link (hi : Nat) (mv : List Nat) (E : Env) (H : Heap) (fp : Fp) (w : World) (E' : Env) (H' : Heap) (fp' : Fp) (w' : World) : Prop where
  keep : ∀ id I, id < hi → id ∉ mv → E.info id = some I → E'.info id = some I
  M : ∀ a v, E.M a = some v → E'.M a = some v
  frm : Frm w (OwnAll H fp) w'
  own : ∀ x, OwnAll H' fp' x → x.1 < w.heap.size → OwnAll H fp x
  ext : MExt E H fp w E'
theorem Trip.link {nx nx' : Nat} {E' : Env} {H' : Heap} {fp' : Fp} {w' : World} (h : Trip C E H fp w nx E' H' fp' w' nx') : Link C.hi C.mv E H fp w E' H' fp' w' := ⟨h.keep, h.M, h.frm, h.own, h.ext⟩
theorem Link.trans {hi : Nat} {mv : List Nat} {E' E'' : Env} {H' H'' : Heap} {fp' fp'' : Fp} {w' w'' : World}
    (h : Link hi mv E H fp w E' H' fp' w') (k : Link hi mv E' H' fp' w' E'' H'' fp'' w'') : Link hi mv E H fp w E'' H'' fp'' w'' where
  keep := fun id I h1 h2 hI => k.keep id I h1 h2 (h.keep id I h1 h2 hI)
  M := fun a v ha => k.M a v (h.M a v ha)
  frm := h.frm.trans k.frm h.own
  own := fun x hx hlt => h.own x (k.own x hx (Nat.lt_of_lt_of_le hlt h.frm.size)) hlt
  ext := h.ext.trans k.ext h.frm.size h.own
theorem base_link {L Lc : Leaves} {σ : List View} {lent mov : List Nat} {blks : List (Nat × BPat)} {nx : Nat} (hs : Sim RT E H fp w)
    (hm : ∀ q ∈ blks, q.2 = .dead ∨ ∃ v, σ[q.1]? = some v ∧ MatchB H L Lc σ lent q.2 v)
    (hp : ∀ (t id lo n : Nat) g kd xs, σ[t]? = some (.part id lo n) → H id = some (.ints g kd xs) → lo + n ≤ xs.length) :
    Link nx mov E H fp w (baseL E H fp w σ lent mov nx) (fHeap L Lc noHeap blks) (baseFp E fp σ) w where
  keep := fun id I h1 h2 hI => by simp only [baseL, if_pos h1, if_neg h2]; exact hI
  M := fun a v h => baseE_M (H := H) (fp := fp) (w := w) (σ := σ) (lent := lent) h
  frm := .refl _ _
  own := fun x ⟨t, b, hb, hx⟩ _ => by
    obtain ⟨v, id, b', _, _, h3, h4⟩ := base_own hs hm hp hb hx
    exact ⟨id, b', h3, h4⟩
  ext := fun ad v h => baseE_ext (σ := σ) (lent := lent) ad v h
def loopG {Z : Type} (A : Ann) (Lc : Leaves) (body : EvC) (kr : KS Z) (fin : A.T → Z) : Nat → Leaves → Option Z
  | 0, _ => none
  | n + 1, L => body Z kr (fun ex F H _ => match ex with
      | .normal => mState A.nx H (some Lc) F A.slots A.blks fun m =>
          gate (namedOnly (ids A.blks) 0 m.σ && (viewsOk A.mov 0 m.σ && viewsApart m.σ)) (gate (lentApart m.σ m.lent) (loopG A Lc body kr fin n m.leaves))
      | .exit id => gate (Nat.beq id A.exId) (mState A.nx H (some Lc) F A.xslots A.xblks fun m =>
          gate (namedOnly (ids A.blks) 0 m.σ && (viewsOk A.mov 0 m.σ && viewsApart m.σ)) (gate (lentApart m.σ m.lent) (some (fin (A.dec m.leaves))))))
      (fSlots L Lc noFr A.slots) (fHeap L Lc noHeap A.blks) A.nx
theorem loopF_eq (A : Ann) (Lc : Leaves) (body : EvC) : ∀ n L, loopF A Lc body n L = loopG A Lc body (fun _ _ _ => none) (fun t => t) n L
  | 0, _ => rfl
  | n + 1, L => by simp only [loopF, loopG, loopF_eq A Lc body n]; rfl
theorem loopR_eq (A : Ann) (Lc : Leaves) (body : EvC) (kr : KS Y) : ∀ n L, loopR A Lc body kr n L = loopG A Lc body (fun F H nx => omap (kr F H nx) .inr) .inl n L
  | 0, _ => rfl
  | n + 1, L => by simp only [loopR, loopG, loopR_eq A Lc body kr n]; rfl
structure Head (C : Cfg) (A : Ann) (Lc : Leaves) (E0 : Env) (H0 : Heap) (fp0 : Fp) (w0 : World) (a0 : Act) (n : Nat) (g : Nat → Bool) (L : Leaves) (E : Env) (fp : Fp) (w : World) (a : Act) : Prop where
  st : St C.RT E (fHeap L Lc noHeap A.blks) fp w (fSlots L Lc noFr A.slots) a A.nx n
  link : Link A.nx A.mov E0 H0 fp0 w0 E (fHeap L Lc noHeap A.blks) fp w
  same : Same g a0 a
def LoopPost {Z : Type} (C : Cfg) (A : Ann) (Lc : Leaves) (kr : KS Z) (fin : A.T → Z) (z : Z) (E0 : Env) (H0 : Heap) (fp0 : Fp) (w0 : World) (a0 : Act) (n : Nat) (g : Nat → Bool) : Exit → Act → World → Prop
  | .exit id, a', w' => id = A.exId ∧ ∃ L' Ex fpx, fin (A.dec L') = z ∧ St C.RT Ex (fHeap L' Lc noHeap A.xblks) fpx w' (fSlots L' Lc noFr A.xslots) a' A.nx n ∧
      (∀ t I, Ex.info t = some I → t < A.nx ∧ t ∈ ids A.blks ∧ (t ∈ A.mov ∨ E0.info t = some I)) ∧ Frm w0 (OwnAll H0 fp0) w' ∧
      (∀ x, OwnAll (fHeap L' Lc noHeap A.xblks) fpx x → x.1 < w0.heap.size → OwnAll H0 fp0 x) ∧ Same g a0 a' ∧
      (A.plain = false → (∀ ad v, E0.M ad = some v → Ex.M ad = some v) ∧ MExt E0 H0 fp0 w0 Ex)
  | .ret, a', w' => ∃ F' H' nx' E' fp', kr F' H' nx' = some z ∧ St C.RT E' H' fp' w' F' a' nx' n ∧ Link A.nx A.mov E0 H0 fp0 w0 E' H' fp' w' ∧ A.nx ≤ nx' ∧ Same g a0 a'
  | _, _, _ => False
theorem loop_rounds {K : FCfg} {inl : Inl} {A : Ann} {c : Code} {Z : Type} {z : Z} {Lc : Leaves} {kr : KS Z} {fin : A.T → Z} {E0 : Env} {H0 : Heap} {fp0 : Fp} {w0 : World} {a0 : Act} {n : Nat}
    (hRT : RTok C.RT) (hb : CodeOK (C.inLoop A) K inl c) (hd : dstsOk n c = true) (hlive : ∀ t ∈ ids A.blks, ∃ J, E0.info t = some J) :
    ∀ (N : Nat) (L : Leaves) (E : Env) (fp : Fp) (w : World) (a : Act), loopG A Lc (evCode (C.inLoop A) K inl c) kr fin N L = some z → Head C A Lc E0 H0 fp0 w0 a0 n (asg c) L E fp w a →
      Code.rounds C.P c (LoopPost C A Lc kr fin z E0 H0 fp0 w0 a0 n (asg c)) N a w
  | 0, L, E, fp, w, a, hk, _ => by simp [loopG] at hk
  | N + 1, L, E, fp, w, a, hk, hh => by
    simp only [loopG] at hk
    rw [rounds_succ]
    refine wp_mono (hb Z z _ _ _ _ _ E fp w a n hk hh.st hd) fun e a' w' hq => ?_
    cases e with
    | normal =>
      obtain ⟨F', H', nx', E', fp', g1, g2, g3, g4⟩ := hq
      simp only [mState] at g1
      obtain ⟨m1, h1, e1, k1⟩ := mSlots_sound g1
      obtain ⟨m, h2, e2, k2⟩ := mBlks_sound h1
      rw [gate_some, gate_some] at h2
      obtain ⟨hg, hla, hnext⟩ := h2
      simp only [Bool.and_eq_true] at hg
      obtain ⟨hn, hvo, hva⟩ := hg
      have hsl := k1 m e2
      have hbl := k2 m (.refl m)
      simp only [lcOf] at hsl hbl
      have hlen : m.σ.length = A.nx := by rw [(e1.trans e2).σlen]; exact nones_length _
      have hv : ∀ t v, m.σ[t]? = some v → v = .none ∨ t ∈ A.mov ∨ v = .whole t := by
        intro t v h
        rcases viewsOk_get hvo h with h | h | ⟨h, _⟩
        · exact Or.inl h
        · rw [Nat.zero_add] at h; exact Or.inr (Or.inr h)
        · rw [Nat.zero_add] at h; exact Or.inr (Or.inl h)
      have hp : ∀ (t id lo n : Nat) g kd xs, m.σ[t]? = some (.part id lo n) → H' id = some (.ints g kd xs) → lo + n ≤ xs.length := by
        intro t id lo n g kd xs h _
        rcases viewsOk_get hvo h with h | h | ⟨_, ⟨id', h⟩ | h⟩ <;> simp at h
      have hle := baseL_le (E := E') (H := H') (fp := fp') (w := w') (lent := m.lent) hlen hv
      have hsim := (Sim.base hRT g2.sim hbl hva hla hp).le hle (fun _ _ h => h)
      have hrf := (base_rf hRT g2.sim g2.rf hsl).mono hle
      refine loop_rounds hRT hb hd hlive N m.leaves _ _ w' a' hnext ⟨⟨hsim, fun id hid => ?_, hrf, g2.size, g2.df⟩, ?_, hh.same.trans g4⟩
      · simp only [baseL]; rw [if_neg (by omega)]
      · exact (hh.link.trans g3.link).trans (base_link g2.sim hbl hp)
    | exit id =>
      obtain ⟨F', H', nx', E', fp', g1, g2, g3, g4⟩ := hq
      simp only at g1
      rw [gate_some] at g1
      obtain ⟨hid, g1⟩ := g1
      simp only [mState] at g1
      obtain ⟨m1, h1, e1, k1⟩ := mSlots_sound g1
      obtain ⟨m, h2, e2, k2⟩ := mBlks_sound h1
      rw [gate_some, gate_some] at h2
      obtain ⟨hg, hla, hnext⟩ := h2
      simp only [Bool.and_eq_true] at hg
      obtain ⟨hn, hvo, hva⟩ := hg
      have hsl := k1 m e2
      have hbl := k2 m (.refl m)
      simp only [lcOf] at hsl hbl
      have hlen : m.σ.length = A.nx := by rw [(e1.trans e2).σlen]; exact nones_length _
      have hp : ∀ (t id lo n : Nat) g kd xs, m.σ[t]? = some (.part id lo n) → H' id = some (.ints g kd xs) → lo + n ≤ xs.length := by
        intro t id lo n g kd xs h _
        rcases viewsOk_get hvo h with h | h | ⟨_, ⟨id', h⟩ | h⟩ <;> simp at h
      have hlk := hh.link.trans g3.link
      have hsim := Sim.base hRT g2.sim hbl hva hla hp
      simp only [Option.some.injEq] at hnext
      refine ⟨Nat.eq_of_beq_eq_true hid, m.leaves, _, _, hnext, ⟨hsim, fun id hid => ?_, base_rf hRT g2.sim g2.rf hsl, g2.size, g2.df⟩, fun t I hI => ?_, hlk.frm, fun x hx hlt => ?_, hh.same.trans g4, fun hpl => ?_⟩
      · simp only [baseE]; rw [List.getElem?_eq_none (by omega)]
      · cases hs : m.σ[t]? with
        | none => simp [baseE, hs] at hI
        | some v =>
          rw [baseE_info hs] at hI
          have ht : t < A.nx := by
            rcases Nat.lt_or_ge t A.nx with h | h
            · exact h
            · rw [List.getElem?_eq_none (by omega)] at hs; simp at hs
          have hmem : t ∈ ids A.blks := by
            rcases namedOnly_get hn hs with rfl | h
            · simp [viewInfo] at hI
            · simpa using h
          refine ⟨ht, hmem, ?_⟩
          by_cases hmv : t ∈ A.mov
          · exact Or.inl hmv
          · right
            rcases viewsOk_get hvo hs with rfl | h | ⟨h, _⟩
            · simp [viewInfo] at hI
            · rw [Nat.zero_add] at h
              subst h
              simp only [viewInfo] at hI
              obtain ⟨J, hJ⟩ := hlive t hmem
              have := hlk.keep t J ht hmv hJ
              rw [this] at hI
              rw [hJ, hI]
            · rw [Nat.zero_add] at h; exact absurd h hmv
      · obtain ⟨t, b, hb', hx'⟩ := hx
        obtain ⟨v, id', b', _, _, h3, h4⟩ := base_own g2.sim hbl hp hb' hx'
        exact hlk.own x ⟨id', b', h3, h4⟩ hlt
      · refine ⟨fun ad v h => baseE_M (hlk.M ad v h), fun ad v h => ?_⟩
        rcases baseE_ext (σ := m.σ) (lent := m.lent) ad v h with h | h | h
        · exact hlk.ext ad v h
        · exact Or.inr (Or.inl (Nat.le_trans hlk.frm.size h))
        · rcases Nat.lt_or_ge ad.block w0.heap.size with hl | hl
          · exact Or.inr (Or.inr (hlk.own _ h hl))
          · exact Or.inr (Or.inl hl)
    | ret =>
      obtain ⟨F', H', nx', E', fp', g1, g2, g3, g4⟩ := hq
      exact ⟨F', H', nx', E', fp', g1, g2, hh.link.trans g3.link, g3.nx, hh.same.trans g4⟩
    | goto l => exact hq.elim
    | panic ch => exact hq.elim
    | outgrown => exact hq.elim
end Go.Eng
/-
  The engine, part twelve (a): what an operation comes to is one value.
  Conditions: none; nothing is claimed of the program here.
-/
namespace Go.Eng
variable {RT : RoTab} {E : Env} {F : Fr} {a : Act} {H : Heap} {fp : Fp} {w : World} {P : Program} {Y : Type} {y : Y} {C : Cfg}
def Cp {X : Type} (f : {Y : Type} → (X → Option Y) → Option Y) : Prop := ∀ (Y : Type) (k : X → Option Y) (y : Y), f k = some y → ∃ x, f some = some x ∧ k x = some y
theorem gate_lift {X : Type} {b : Bool} {z : Option Y} {z' : Option X} {k : X → Option Y} (hk : gate b z = some y) (h : z = some y → ∃ x, z' = some x ∧ k x = some y) :
    ∃ x, gate b z' = some x ∧ k x = some y := by
  rw [gate_some] at hk
  obtain ⟨x, h1, h2⟩ := h hk.2
  exact ⟨x, gate_some.2 ⟨hk.1, h1⟩, h2⟩
theorem chk_lift {X : Type} {c : Prop} [Decidable c] {z : Option Y} {z' : Option X} {k : X → Option Y} (hk : chk c z = some y) (h : z = some y → ∃ x, z' = some x ∧ k x = some y) :
    ∃ x, chk c z' = some x ∧ k x = some y := by
  rw [chk_some] at hk
  obtain ⟨x, h1, h2⟩ := h hk.2
  exact ⟨x, chk_some.2 ⟨hk.1, h1⟩, h2⟩
theorem capA_lift {X : Type} {e : TypeId} {n : Nat} {z : Option Y} {z' : Option X} {k : X → Option Y} (hk : capA P e n z = some y) (h : z = some y → ∃ x, z' = some x ∧ k x = some y) :
    ∃ x, capA P e n z' = some x ∧ k x = some y := by
  rw [capA_some] at hk
  obtain ⟨x, h1, h2⟩ := h hk.2
  exact ⟨x, capA_some.2 ⟨hk.1, h1⟩, h2⟩
theorem none_lift {X : Type} {z' : Option X} {k : X → Option Y} (hk : (none : Option Y) = some y) : ∃ x, z' = some x ∧ k x = some y := by simp at hk
theorem leaf_lift {X : Type} {x : X} {k : X → Option Y} (hk : k x = some y) : ∃ x', some x = some x' ∧ k x' = some y := ⟨x, rfl, hk⟩
theorem partA_cp {t : TypeId} {cs : List Atom} {off : Nat} : Cp (fun k => partA P t cs off k) := by
  intro Y k y hk
  unfold partA at hk ⊢
  repeat' split at hk
  all_goals first | exact none_lift hk | exact leaf_lift hk | exact gate_lift hk leaf_lift | exact gate_lift hk none_lift
theorem evLoad_cp {t : TypeId} {x : Atom} : Cp (fun k => evLoad P H t x k) := by
  intro Y k y hk
  unfold evLoad at hk ⊢
  split at hk
  · split at hk
    · exact partA_cp _ _ _ hk
    · exact none_lift hk
  · split at hk
    · exact gate_lift hk leaf_lift
    · exact partA_cp _ _ _ hk
    · refine gate_lift hk fun hk => ?_
      unfold br at hk ⊢
      split at hk
      · exact leaf_lift hk
      · exact leaf_lift hk
    · exact none_lift hk
  · exact partA_cp _ _ _ hk
  · exact none_lift hk
theorem evBin_cp {op : BinOp} {t : TypeId} {x z : AV} : Cp (fun k => evBin P op t x z k) := by
  intro Y k y hk
  unfold evBin at hk ⊢
  split at hk
  · split at hk
    · exact chk_lift hk leaf_lift
    · exact chk_lift hk leaf_lift
    · exact gate_lift hk fun hk => chk_lift hk leaf_lift
    · exact gate_lift hk fun hk => chk_lift hk leaf_lift
    · refine gate_lift hk fun hk => ?_
      split at hk
      · exact leaf_lift hk
      · exact none_lift hk
  all_goals first
    | exact none_lift hk
    | (split at hk <;> first | exact none_lift hk | (split at hk <;> first | exact none_lift hk | (split at hk <;> first | exact none_lift hk | exact leaf_lift hk)) | exact leaf_lift hk)
theorem evUn_cp {op : UnOp} {x : AV} : Cp (fun k => evUn op x k) := by
  intro Y k y hk
  unfold evUn at hk ⊢
  split at hk <;> first | exact none_lift hk | exact leaf_lift hk
theorem evConv_cp {s d : TypeId} {x : AV} : Cp (fun k => evConv P s d x k) := by
  intro Y k y hk
  unfold evConv at hk ⊢
  split at hk
  · exact leaf_lift hk
  · split at hk
    · exact leaf_lift hk
    · exact none_lift hk
  · exact none_lift hk
theorem evField_cp {t : TypeId} {x : AV} {f : Nat} : Cp (fun k => evField P t x f k) := by
  intro Y k y hk
  unfold evField at hk ⊢
  split at hk
  · split at hk
    · exact partA_cp _ _ _ hk
    · exact none_lift hk
  · exact none_lift hk
theorem evFieldAddr_cp {t : TypeId} {x : AV} {f : Nat} : Cp (fun k => evFieldAddr P t x f k) := by
  intro Y k y hk
  unfold evFieldAddr at hk ⊢
  split at hk
  · split at hk
    · refine gate_lift hk fun hk => ?_
      split at hk <;> first | exact none_lift hk | exact leaf_lift hk
    · exact none_lift hk
  · exact none_lift hk
theorem evIndexAddr_cp {t : TypeId} {x ix : AV} : Cp (fun k => evIndexAddr P RT H t x ix k) := by
  intro Y k y hk
  unfold evIndexAddr at hk ⊢
  split at hk
  · split at hk
    · split at hk
      · exact gate_lift hk fun hk => chk_lift hk leaf_lift
      · exact none_lift hk
    · exact none_lift hk
  · exact gate_lift hk leaf_lift
  · exact none_lift hk
theorem evIndex_cp {t : TypeId} {x ix : AV} : Cp (fun k => evIndex P t x ix k) := by
  intro Y k y hk
  unfold evIndex at hk ⊢
  split at hk
  · split at hk
    · split at hk
      · exact gate_lift hk fun hk => chk_lift hk leaf_lift
      · exact none_lift hk
    · exact none_lift hk
  · exact chk_lift hk leaf_lift
  · exact none_lift hk
theorem evExtract_cp {x : AV} {i : Nat} : Cp (fun k => evExtract x i k) := by
  intro Y k y hk
  unfold evExtract at hk ⊢
  split at hk
  · split at hk <;> first | exact none_lift hk | exact leaf_lift hk
  · exact none_lift hk
theorem evAssert_cp {x : AV} {t : TypeId} {ok : Bool} : Cp (fun k => evAssert P x t ok k) := by
  intro Y k y hk
  unfold evAssert at hk ⊢
  split at hk
  · exact none_lift hk
  · refine gate_lift hk fun hk => ?_
    split at hk <;> first | exact none_lift hk | exact leaf_lift hk
  · exact none_lift hk
theorem evIface_cp {t : TypeId} {x : AV} : Cp (fun k => evIface P t x k) := by
  intro Y k y hk
  unfold evIface at hk ⊢
  split at hk <;> first | exact none_lift hk | exact leaf_lift hk
theorem evBuild_cp {t : TypeId} {parts : List (Nat × AV)} : Cp (fun k => evBuild P t parts k) := by
  intro Y k y hk
  unfold evBuild at hk ⊢
  split at hk
  · split at hk
    · exact gate_lift hk leaf_lift
    · exact none_lift hk
  · split at hk
    · exact gate_lift hk leaf_lift
    · exact none_lift hk
  · exact none_lift hk
theorem evMinMax_cp {mx : Bool} {l : List AV} : Cp (fun k => evMinMax mx l k) := by
  intro Y k y hk
  change evMinMax mx l k = some y at hk
  have h : ∃ kx a ky b, l = [.at (.int kx a), .at (.int ky b)] := by
    unfold evMinMax at hk
    split at hk
    · exact ⟨_, _, _, _, rfl⟩
    · simp at hk
  obtain ⟨kx, a, ky, b, rfl⟩ := h
  cases mx <;> exact leaf_lift hk
theorem evLen_cp {t : TypeId} {x : AV} : Cp (fun k => evLen P RT H t x k) := by
  intro Y k y hk
  unfold evLen at hk ⊢
  split at hk
  · split at hk <;> first | exact none_lift hk | exact leaf_lift hk
  · exact leaf_lift hk
  · exact leaf_lift hk
  · exact none_lift hk
theorem bound_lift {X : Type} {x : Option AV} {d m : Nat} {z : Nat → Option Y} {z' : Nat → Option X} {k : X → Option Y} (hk : boundA x d m z = some y) (h : ∀ n, z n = some y → ∃ x, z' n = some x ∧ k x = some y) :
    ∃ x', boundA x d m z' = some x' ∧ k x' = some y := by
  unfold boundA at hk ⊢
  split at hk
  · exact h _ hk
  · exact chk_lift hk (h _)
  · exact none_lift hk
theorem evSlice_cp {t : TypeId} {x : AV} {lo hi : Option AV} {mx : Bool} : Cp (fun k => evSlice P RT H t x lo hi mx k) := by
  intro Y k y hk
  unfold evSlice at hk ⊢
  split at hk
  · split at hk
    · refine gate_lift hk fun hk => bound_lift hk fun n hk => bound_lift hk fun n hk => ?_
      split at hk
      · exact leaf_lift hk
      · exact none_lift hk
    · exact none_lift hk
  · exact none_lift hk
theorem evR_cp {op : Op} : Cp (fun k => evR P RT H F op k) := by
  intro Y k y hk
  unfold evR at hk ⊢
  split at hk
  · exact leaf_lift hk
  · exact leaf_lift hk
  · split at hk
    · rename_i c hc
      cases c <;> exact leaf_lift hk
    · exact none_lift hk
  · split at hk
    · exact evLoad_cp _ _ _ hk
    · exact none_lift hk
  · split at hk <;> first | exact none_lift hk | exact leaf_lift hk
  · exact evBin_cp _ _ _ hk
  · exact evUn_cp _ _ _ hk
  · exact evConv_cp _ _ _ hk
  · exact evIface_cp _ _ _ hk
  · split at hk <;> first | exact none_lift hk | exact leaf_lift hk
  · exact evFieldAddr_cp _ _ _ hk
  · exact evField_cp _ _ _ hk
  · exact evIndexAddr_cp _ _ _ hk
  · exact evIndex_cp _ _ _ hk
  · exact evAssert_cp _ _ _ hk
  · exact evExtract_cp _ _ _ hk
  · exact evBuild_cp _ _ _ hk
  · exact evSlice_cp _ _ _ hk
  · split at hk
    · exact evMinMax_cp _ _ _ hk
    · exact evMinMax_cp _ _ _ hk
    · split at hk
      · exact evLen_cp _ _ _ hk
      · exact none_lift hk
    · exact none_lift hk
  · exact none_lift hk
theorem evLit_cp {op : Op} : Cp (fun k => evLit P F op k) := by
  intro Y k y hk
  unfold evLit at hk ⊢
  repeat' split at hk
  all_goals first | exact none_lift hk | exact gate_lift hk leaf_lift
theorem pushI_lift {X : Type} {m : MS} {h : Nat} {n : Int} {z : MS → Option Y} {z' : MS → Option X} {k : X → Option Y} (hk : pushI m h n z = some y) (hz : ∀ m, z m = some y → ∃ x, z' m = some x ∧ k x = some y) :
    ∃ x, pushI m h n z' = some x ∧ k x = some y := gate_lift hk (hz _)
theorem pushB_lift {X : Type} {m : MS} {h : Nat} {n : Bool} {z : MS → Option Y} {z' : MS → Option X} {k : X → Option Y} (hk : pushB m h n z = some y) (hz : ∀ m, z m = some y → ∃ x, z' m = some x ∧ k x = some y) :
    ∃ x, pushB m h n z' = some x ∧ k x = some y := gate_lift hk (hz _)
theorem pushL_lift {X : Type} {m : MS} {h : Nat} {n : List Int} {z : MS → Option Y} {z' : MS → Option X} {k : X → Option Y} (hk : pushL m h n z = some y) (hz : ∀ m, z m = some y → ∃ x, z' m = some x ∧ k x = some y) :
    ∃ x, pushL m h n z' = some x ∧ k x = some y := gate_lift hk (hz _)
theorem pushR_lift {X : Type} {m : MS} {h : Nat} {n : List (List Int)} {z : MS → Option Y} {z' : MS → Option X} {k : X → Option Y} (hk : pushR m h n z = some y) (hz : ∀ m, z m = some y → ∃ x, z' m = some x ∧ k x = some y) :
    ∃ x, pushR m h n z' = some x ∧ k x = some y := gate_lift hk (hz _)
theorem chkI_lift {X : Type} {a b : Int} {z : Option Y} {z' : Option X} {k : X → Option Y} (hk : chkI a b z = some y) (h : z = some y → ∃ x, z' = some x ∧ k x = some y) :
    ∃ x, chkI a b z' = some x ∧ k x = some y := by
  rw [chkI_some] at hk
  obtain ⟨x, h1, h2⟩ := h hk.2
  exact ⟨x, chkI_some.2 ⟨hk.1, h1⟩, h2⟩
theorem chkB_lift {X : Type} {a b : Bool} {z : Option Y} {z' : Option X} {k : X → Option Y} (hk : chkB a b z = some y) (h : z = some y → ∃ x, z' = some x ∧ k x = some y) :
    ∃ x, chkB a b z' = some x ∧ k x = some y := by
  rw [chkB_some] at hk
  obtain ⟨x, h1, h2⟩ := h hk.2
  exact ⟨x, chkB_some.2 ⟨hk.1, h1⟩, h2⟩
theorem chkL_lift {X : Type} {a b : List Int} {z : Option Y} {z' : Option X} {k : X → Option Y} (hk : chkL a b z = some y) (h : z = some y → ∃ x, z' = some x ∧ k x = some y) :
    ∃ x, chkL a b z' = some x ∧ k x = some y := by
  rw [chkL_some] at hk
  obtain ⟨x, h1, h2⟩ := h hk.2
  exact ⟨x, chkL_some.2 ⟨hk.1, h1⟩, h2⟩
theorem chkR_lift {X : Type} {a b : List (List Int)} {z : Option Y} {z' : Option X} {k : X → Option Y} (hk : chkR a b z = some y) (h : z = some y → ∃ x, z' = some x ∧ k x = some y) :
    ∃ x, chkR a b z' = some x ∧ k x = some y := by
  rw [chkR_some] at hk
  obtain ⟨x, h1, h2⟩ := h hk.2
  exact ⟨x, chkR_some.2 ⟨hk.1, h1⟩, h2⟩
theorem chkN_lift {X : Type} {a b : Nat} {z : Option Y} {z' : Option X} {k : X → Option Y} (hk : chkN a b z = some y) (h : z = some y → ∃ x, z' = some x ∧ k x = some y) :
    ∃ x, chkN a b z' = some x ∧ k x = some y := by
  rw [chkN_some] at hk
  obtain ⟨x, h1, h2⟩ := h hk.2
  exact ⟨x, chkN_some.2 ⟨hk.1, h1⟩, h2⟩
theorem fixI_lift {X : Type} {Lc : Option Leaves} {m : MS} {h : Nat} {n : Int} {z : MS → Option Y} {z' : MS → Option X} {k : X → Option Y} (hk : fixI Lc m h n z = some y) (hz : ∀ m, z m = some y → ∃ x, z' m = some x ∧ k x = some y) :
    ∃ x, fixI Lc m h n z' = some x ∧ k x = some y := by
  cases Lc with
  | none => exact gate_lift hk (hz _)
  | some L => exact chkI_lift hk (hz _)
theorem fixB_lift {X : Type} {Lc : Option Leaves} {m : MS} {h : Nat} {n : Bool} {z : MS → Option Y} {z' : MS → Option X} {k : X → Option Y} (hk : fixB Lc m h n z = some y) (hz : ∀ m, z m = some y → ∃ x, z' m = some x ∧ k x = some y) :
    ∃ x, fixB Lc m h n z' = some x ∧ k x = some y := by
  cases Lc with
  | none => exact gate_lift hk (hz _)
  | some L => exact chkB_lift hk (hz _)
theorem fixL_lift {X : Type} {Lc : Option Leaves} {m : MS} {h : Nat} {n : List Int} {z : MS → Option Y} {z' : MS → Option X} {k : X → Option Y} (hk : fixL Lc m h n z = some y) (hz : ∀ m, z m = some y → ∃ x, z' m = some x ∧ k x = some y) :
    ∃ x, fixL Lc m h n z' = some x ∧ k x = some y := by
  cases Lc with
  | none => exact gate_lift hk (hz _)
  | some L => exact chkL_lift hk (hz _)
theorem fixR_lift {X : Type} {Lc : Option Leaves} {m : MS} {h : Nat} {n : List (List Int)} {z : MS → Option Y} {z' : MS → Option X} {k : X → Option Y} (hk : fixR Lc m h n z = some y) (hz : ∀ m, z m = some y → ∃ x, z' m = some x ∧ k x = some y) :
    ∃ x, fixR Lc m h n z' = some x ∧ k x = some y := by
  cases Lc with
  | none => exact gate_lift hk (hz _)
  | some L => exact chkR_lift hk (hz _)
theorem fixN_lift {X : Type} {Lc : Option Leaves} {m : MS} {h : Nat} {n : Nat} {z : MS → Option Y} {z' : MS → Option X} {k : X → Option Y} (hk : fixN Lc m h n z = some y) (hz : ∀ m, z m = some y → ∃ x, z' m = some x ∧ k x = some y) :
    ∃ x, fixN Lc m h n z' = some x ∧ k x = some y := by
  cases Lc with
  | none => exact gate_lift hk (hz _)
  | some L => exact chkN_lift hk (hz _)
theorem bindView_lift {X : Type} {m : MS} {t : Nat} {v : View} {z : MS → Option Y} {z' : MS → Option X} {k : X → Option Y} (hk : bindView m t v z = some y) (hz : ∀ m, z m = some y → ∃ x, z' m = some x ∧ k x = some y) :
    ∃ x, bindView m t v z' = some x ∧ k x = some y := by
  unfold bindView at hk ⊢
  split at hk
  · exact hz _ hk
  · split at hk
    · exact gate_lift hk (hz _)
    · exact none_lift hk
  · exact none_lift hk
theorem roA_lift {X : Type} {kd : IntKind} {a : Atom} {z : List Int → Option Nat → Option Y} {z' : List Int → Option Nat → Option X} {k : X → Option Y} (hk : roA H kd a z = some y)
    (hz : ∀ xs l, z xs l = some y → ∃ x, z' xs l = some x ∧ k x = some y) : ∃ x, roA H kd a z' = some x ∧ k x = some y := by
  unfold roA at hk ⊢
  split at hk
  · exact gate_lift hk (hz _ _)
  · exact hz _ _ hk
  all_goals first
    | exact none_lift hk
    | (split at hk
       · exact gate_lift hk (hz _ _)
       · exact none_lift hk)
theorem mClo_lift {X : Type} {z : MS → Option Y} {z' : MS → Option X} {k : X → Option Y} (hz : ∀ m, z m = some y → ∃ x, z' m = some x ∧ k x = some y) :
    ∀ {ts : List (Nat × Nat)} {cs : List Atom} {m : MS}, mClo ts cs m z = some y → ∃ x, mClo ts cs m z' = some x ∧ k x = some y
  | [], [], m, hk => hz _ hk
  | (t, off) :: ts, c :: cs, m, hk => by
    cases c with
    | ptr id off' =>
      simp only [mClo] at hk ⊢
      exact gate_lift hk fun hk => bindView_lift hk fun m hk => mClo_lift hz hk
    | _ => simp [mClo] at hk
  | [], _ :: _, _, hk => by simp [mClo] at hk
  | _ :: _, [], _, hk => by simp [mClo] at hk
theorem mAtom_lift {X : Type} {Lc : Option Leaves} {p : Pat} {a : Atom} {m : MS} {z : MS → Option Y} {z' : MS → Option X} {k : X → Option Y} (hk : mAtom H Lc p a m z = some y)
    (hz : ∀ m, z m = some y → ∃ x, z' m = some x ∧ k x = some y) : ∃ x, mAtom H Lc p a m z' = some x ∧ k x = some y := by
  unfold mAtom at hk ⊢
  split at hk
  all_goals first
    | exact hz _ hk
    | exact pushB_lift hk hz
    | exact gate_lift hk fun hk => pushI_lift hk hz
    | exact fixB_lift hk hz
    | exact gate_lift hk fun hk => fixI_lift hk hz
    | exact gate_lift hk fun hk => bindView_lift hk hz
    | exact roA_lift hk fun xs l hk => pushL_lift hk hz
    | exact roA_lift hk fun xs l hk => fixL_lift hk hz
    | exact fixN_lift hk fun m hk => fixN_lift hk fun m hk => bindView_lift hk hz
    | exact gate_lift hk fun hk => mClo_lift hz hk
    | exact gate_lift hk (hz _)
    | exact none_lift hk
theorem mAtoms_lift {X : Type} {Lc : Option Leaves} {z : MS → Option Y} {z' : MS → Option X} {k : X → Option Y} (hz : ∀ m, z m = some y → ∃ x, z' m = some x ∧ k x = some y) :
    ∀ {ps : List Pat} {as : List Atom} {m : MS}, mAtoms H Lc ps as m z = some y → ∃ x, mAtoms H Lc ps as m z' = some x ∧ k x = some y
  | [], [], m, hk => hz _ hk
  | p :: ps, a :: as, m, hk => by
    simp only [mAtoms] at hk ⊢
    exact mAtom_lift hk fun m hk => mAtoms_lift hz hk
  | [], _ :: _, _, hk => by simp [mAtoms] at hk
  | _ :: _, [], _, hk => by simp [mAtoms] at hk
theorem mTup_lift {X : Type} {Lc : Option Leaves} {z : MS → Option Y} {z' : MS → Option X} {k : X → Option Y} (hz : ∀ m, z m = some y → ∃ x, z' m = some x ∧ k x = some y) :
    ∀ {ps : List (Bool × List Pat)} {as : List (Bool × List Atom)} {m : MS}, mTup H Lc ps as m z = some y → ∃ x, mTup H Lc ps as m z' = some x ∧ k x = some y
  | [], [], m, hk => hz _ hk
  | (g, p) :: ps, (g', a) :: as, m, hk => by
    simp only [mTup] at hk ⊢
    exact gate_lift hk fun hk => mAtoms_lift (fun m hk => mTup_lift hz hk) hk
  | [], _ :: _, _, hk => by simp [mTup] at hk
  | _ :: _, [], _, hk => by simp [mTup] at hk
theorem mAV_lift {X : Type} {Lc : Option Leaves} {p : VPat} {a : AV} {m : MS} {z : MS → Option Y} {z' : MS → Option X} {k : X → Option Y} (hk : mAV H Lc p a m z = some y)
    (hz : ∀ m, z m = some y → ∃ x, z' m = some x ∧ k x = some y) : ∃ x, mAV H Lc p a m z' = some x ∧ k x = some y := by
  unfold mAV at hk ⊢
  split at hk
  · exact hz _ hk
  · exact mAtom_lift hk hz
  · exact mAtoms_lift hz hk
  · exact mTup_lift hz hk
  · exact none_lift hk
theorem mAVs_lift {X : Type} {Lc : Option Leaves} {z : MS → Option Y} {z' : MS → Option X} {k : X → Option Y} (hz : ∀ m, z m = some y → ∃ x, z' m = some x ∧ k x = some y) :
    ∀ {ps : List VPat} {as : List AV} {m : MS}, mAVs H Lc ps as m z = some y → ∃ x, mAVs H Lc ps as m z' = some x ∧ k x = some y
  | [], [], m, hk => hz _ hk
  | p :: ps, a :: as, m, hk => by
    simp only [mAVs] at hk ⊢
    exact mAV_lift hk fun m hk => mAVs_lift hz hk
  | [], _ :: _, _, hk => by simp [mAVs] at hk
  | _ :: _, [], _, hk => by simp [mAVs] at hk
theorem mBlk_lift {X : Type} {Lc : Option Leaves} {p : BPat} {v : View} {m : MS} {z : MS → Option Y} {z' : MS → Option X} {k : X → Option Y} (hk : mBlk H Lc p v m z = some y)
    (hz : ∀ m, z m = some y → ∃ x, z' m = some x ∧ k x = some y) : ∃ x, mBlk H Lc p v m z' = some x ∧ k x = some y := by
  unfold mBlk at hk ⊢
  split at hk
  all_goals first
    | exact none_lift hk
    | exact pushL_lift hk hz
    | exact fixL_lift hk hz
    | (split at hk
       · exact gate_lift hk fun hk => mAtoms_lift hz hk
       · exact none_lift hk)
    | (split at hk
       · exact gate_lift hk fun hk => pushL_lift hk hz
       · exact none_lift hk)
    | (split at hk
       · exact gate_lift hk fun hk => fixL_lift hk hz
       · exact none_lift hk)
    | (split at hk
       · exact gate_lift hk fun hk => pushR_lift hk hz
       · split at hk
         · exact gate_lift hk fun hk => pushR_lift hk hz
         · exact none_lift hk
       · exact none_lift hk)
    | (split at hk
       · exact gate_lift hk fun hk => fixR_lift hk hz
       · exact none_lift hk)
    | (split at hk
       · exact gate_lift hk fun hk => fixR_lift hk fun m hk => fixN_lift hk fun m hk => bindView_lift hk hz
       · exact none_lift hk)
theorem mBlks_lift {X : Type} {Lc : Option Leaves} {z : MS → Option Y} {z' : MS → Option X} {k : X → Option Y} (hz : ∀ m, z m = some y → ∃ x, z' m = some x ∧ k x = some y) :
    ∀ {ps : List (Nat × BPat)} {m : MS}, mBlks H Lc ps m z = some y → ∃ x, mBlks H Lc ps m z' = some x ∧ k x = some y
  | [], m, hk => hz _ hk
  | (t, p) :: ps, m, hk => by
    simp only [mBlks] at hk ⊢
    split at hk
    · exact mBlks_lift hz hk
    · split at hk
      · exact mBlk_lift hk fun m hk => mBlks_lift hz hk
      · exact none_lift hk
theorem partsIn_lift {X : Type} {z : Option Y} {z' : Option X} {k : X → Option Y} (hz : z = some y → ∃ x, z' = some x ∧ k x = some y) :
    ∀ {vs : List View}, partsIn H vs z = some y → ∃ x, partsIn H vs z' = some x ∧ k x = some y
  | [], hk => hz hk
  | v :: vs, hk => by
    cases v with
    | part id lo n =>
      simp only [partsIn] at hk ⊢
      split at hk
      · exact chk_lift hk fun hk => partsIn_lift hz hk
      · exact none_lift hk
    | _ =>
      simp only [partsIn] at hk ⊢
      exact partsIn_lift hz hk
theorem callSpec_cp {f : FuncId} {s : Spec} (hok : CallOK P f s) {N nx : Nat} {args : List AV} {k : AV → Heap → Nat → Option Y} (hk : callSpec N s args H nx k = some y) :
    ∃ x : AV × Heap × Nat, callSpec N s args H nx (fun v H n => some (v, H, n)) = some x ∧ k x.1 x.2.1 x.2.2 = some y := by
  unfold callSpec at hk ⊢
  refine mAVs_lift (k := fun x : AV × Heap × Nat => k x.1 x.2.1 x.2.2) (fun m hk => mBlks_lift (fun m hk => gate_lift hk fun hk => partsIn_lift (fun hk => ?_) hk) hk) hk
  rw [hok.cps, obind_some] at hk
  obtain ⟨L, h1, h2⟩ := hk
  rw [hok.cps, h1]
  exact ⟨_, rfl, h2⟩
theorem evC_cp (hC : CfgOK C) {nx : Nat} {op : Op} {k : KC Y} (hk : evC C noInl H nx F op k = some y) :
    ∃ x : AV × Heap × Nat, evC C noInl H nx F op (fun v H n => some (v, H, n)) = some x ∧ k x.1 x.2.1 x.2.2 = some y := by
  unfold evC at hk ⊢
  split at hk
  · split at hk
    · exact ⟨_, rfl, hk⟩
    · exact none_lift hk
  · exact gate_lift (k := fun x : AV × Heap × Nat => k x.1 x.2.1 x.2.2) hk fun hk => ⟨_, rfl, hk⟩
  · unfold buildA at hk ⊢
    repeat' split at hk
    all_goals first
      | exact none_lift hk
      | exact gate_lift (k := fun x : AV × Heap × Nat => k x.1 x.2.1 x.2.2) hk fun hk => ⟨_, rfl, hk⟩
      | exact gate_lift (k := fun x : AV × Heap × Nat => k x.1 x.2.1 x.2.2) hk fun hk => gate_lift hk fun hk => ⟨_, rfl, hk⟩
  · unfold makeA at hk ⊢
    split at hk
    · split at hk
      · split at hk
        · exact gate_lift (k := fun x : AV × Heap × Nat => k x.1 x.2.1 x.2.2) hk fun hk => chk_lift hk fun hk => ⟨_, rfl, hk⟩
        · exact none_lift hk
      · exact gate_lift (k := fun x : AV × Heap × Nat => k x.1 x.2.1 x.2.2) hk fun hk => chk_lift hk fun hk => ⟨_, rfl, hk⟩
      · exact none_lift hk
    · exact none_lift hk
  · split at hk
    · unfold storeA at hk ⊢
      split at hk
      · split at hk
        · exact gate_lift (k := fun x : AV × Heap × Nat => k x.1 x.2.1 x.2.2) hk fun hk => ⟨_, rfl, hk⟩
        · exact none_lift hk
      · split at hk
        · exact gate_lift (k := fun x : AV × Heap × Nat => k x.1 x.2.1 x.2.2) hk fun hk => ⟨_, rfl, hk⟩
        · split at hk
          · exact gate_lift (k := fun x : AV × Heap × Nat => k x.1 x.2.1 x.2.2) hk fun hk => ⟨_, rfl, hk⟩
          · exact none_lift hk
        · exact none_lift hk
      · exact none_lift hk
    · exact none_lift hk
  · split at hk
    · unfold evCall at hk ⊢
      split at hk
      · split at hk
        · refine gate_lift (k := fun x : AV × Heap × Nat => k x.1 x.2.1 x.2.2) hk fun hk => ?_
          rw [obind_some] at hk
          obtain ⟨b, h1, h2⟩ := hk
          rw [h1]
          exact ⟨_, rfl, h2⟩
        split at hk
        · rename_i s hs
          exact callSpec_cp (hC.specs _ (pick_mem hs)).1 hk
        · split at hk
          · unfold evExt at hk ⊢
            split at hk
            · exact chk_lift (k := fun x : AV × Heap × Nat => k x.1 x.2.1 x.2.2) hk fun hk => ⟨_, rfl, hk⟩
            · exact none_lift hk
          · simp [noInl] at hk
      · exact none_lift hk
    · unfold evInv at hk ⊢
      split at hk
      · split at hk
        · unfold evCall at hk ⊢
          simp only at hk ⊢
          split at hk
          · refine gate_lift (k := fun x : AV × Heap × Nat => k x.1 x.2.1 x.2.2) hk fun hk => ?_
            rw [obind_some] at hk
            obtain ⟨b, h1, h2⟩ := hk
            rw [h1]
            exact ⟨_, rfl, h2⟩
          split at hk
          · rename_i s hs
            exact callSpec_cp (hC.specs _ (pick_mem hs)).1 hk
          · split at hk
            · unfold evExt at hk ⊢
              split at hk
              · exact chk_lift (k := fun x : AV × Heap × Nat => k x.1 x.2.1 x.2.2) hk fun hk => ⟨_, rfl, hk⟩
              · exact none_lift hk
            · simp [noInl] at hk
        · exact none_lift hk
      · exact none_lift hk
    · split at hk
      · split at hk
        · unfold appendR at hk ⊢
          split at hk
          · split at hk
            · split at hk
              · refine gate_lift (k := fun x : AV × Heap × Nat => k x.1 x.2.1 x.2.2) hk fun hk => ?_
                split at hk
                · exact ⟨_, rfl, hk⟩
                · split at hk
                  · exact gate_lift (k := fun x : AV × Heap × Nat => k x.1 x.2.1 x.2.2) hk fun hk => chk_lift hk fun hk => ⟨_, rfl, hk⟩
                  · exact none_lift hk
                · exact none_lift hk
              · exact none_lift hk
            · exact none_lift hk
          · exact none_lift hk
        · unfold appendA contA at hk ⊢
          repeat' split at hk
          all_goals first
            | exact none_lift hk
            | exact gate_lift (k := fun x : AV × Heap × Nat => k x.1 x.2.1 x.2.2) hk fun hk => roA_lift hk fun xs l hk => capA_lift hk fun hk => ⟨_, rfl, hk⟩
            | exact gate_lift (k := fun x : AV × Heap × Nat => k x.1 x.2.1 x.2.2) hk fun hk => none_lift hk
            | exact gate_lift (k := fun x : AV × Heap × Nat => k x.1 x.2.1 x.2.2) hk fun hk => chk_lift hk fun hk => chk_lift hk fun hk => ⟨_, rfl, hk⟩
      · exact none_lift hk
    · split at hk
      · unfold copyA contA at hk ⊢
        repeat' split at hk
        all_goals first
          | exact none_lift hk
          | exact gate_lift (k := fun x : AV × Heap × Nat => k x.1 x.2.1 x.2.2) hk fun hk => roA_lift hk fun xs l hk => ⟨_, rfl, hk⟩
          | exact gate_lift (k := fun x : AV × Heap × Nat => k x.1 x.2.1 x.2.2) hk fun hk => roA_lift hk fun xs l hk => chk_lift hk fun hk => ⟨_, rfl, hk⟩
          | exact gate_lift (k := fun x : AV × Heap × Nat => k x.1 x.2.1 x.2.2) hk fun hk => none_lift hk
      · exact none_lift hk
    · exact none_lift hk
  · exact none_lift hk
theorem partsA_congr {F F' : Fr} : ∀ {l : List (Nat × Operand)}, (∀ q ∈ l, evOpd F q.2 = evOpd F' q.2) → partsA F l = partsA F' l
  | [], _ => rfl
  | (i, x) :: r, h => by
    simp only [partsA]
    rw [h (i, x) (by simp), partsA_congr fun q hq => h q (by simp [hq])]
theorem argsA_congr {F F' : Fr} : ∀ {l : List Operand}, (∀ x ∈ l, evOpd F x = evOpd F' x) → argsA F l = argsA F' l
  | [], _ => rfl
  | x :: r, h => by
    simp only [argsA]
    rw [h x (by simp), argsA_congr fun q hq => h q (by simp [hq])]
theorem parts_ops {F F' : Fr} {ps : Array (Nat × Operand)} (h : ∀ x ∈ (ps.toList.map (·.2)).toArray, evOpd F x = evOpd F' x) : partsA F ps.toList = partsA F' ps.toList :=
  partsA_congr fun q hq => h q.2 (by simpa using ⟨q.1, by simpa using hq⟩)
theorem evR_congr {F F' : Fr} {op : Op} {k : AV → Option Y} (h : ∀ x ∈ op.operands, evOpd F x = evOpd F' x) : evR P RT H F op k = evR P RT H F' op k := by
  cases op with
  | move x => simp only [evR, h x (by simp [Op.operands])]
  | assign x => simp only [evR, h x (by simp [Op.operands])]
  | pick c a b => simp only [evR, h c (by simp [Op.operands]), h a (by simp [Op.operands]), h b (by simp [Op.operands])]
  | load t x => simp only [evR, h x (by simp [Op.operands])]
  | nilCheck x => simp only [evR, h x (by simp [Op.operands])]
  | binOp op t x z t' => simp only [evR, h x (by simp [Op.operands]), h z (by simp [Op.operands])]
  | unOp op t x => simp only [evR, h x (by simp [Op.operands])]
  | convert s d x => simp only [evR, h x (by simp [Op.operands])]
  | makeInterface t x => simp only [evR, h x (by simp [Op.operands])]
  | makeFunc fn first cap =>
    have : argsA F cap.toList = argsA F' cap.toList := argsA_congr fun x hx => h x (by simp [Op.operands]; right; simpa using hx)
    cases fn <;> simp only [evR, this]
  | fieldAddr t x f => simp only [evR, h x (by simp [Op.operands])]
  | field t x f => simp only [evR, h x (by simp [Op.operands])]
  | indexAddr t x ix => simp only [evR, h x (by simp [Op.operands]), h ix (by simp [Op.operands])]
  | index t x ix => simp only [evR, h x (by simp [Op.operands]), h ix (by simp [Op.operands])]
  | typeAssert x t t' ok => simp only [evR, h x (by simp [Op.operands])]
  | extract x i => simp only [evR, h x (by simp [Op.operands])]
  | build t ps => simp only [evR, parts_ops h]
  | slice t x lo hi mx =>
    have h1 : evOpd F x = evOpd F' x := h x (by simp [Op.operands])
    have h2 : optA F lo = optA F' lo := by
      cases lo with
      | none => rfl
      | some z => simp only [optA, h z (by simp [Op.operands])]
    have h3 : optA F hi = optA F' hi := by
      cases hi with
      | none => rfl
      | some z => simp only [optA, h z (by simp [Op.operands])]
    simp only [evR, h1, h2, h3]
  | call c =>
    have h1 : argsA F c.args.toList = argsA F' c.args.toList := argsA_congr fun x hx => h x (by simp [Op.operands, Call.operands]; right; simpa using hx)
    simp only [evR, h1]
  | _ => rfl
theorem evLit_congr {F F' : Fr} {op : Op} {k : AV → Option Y} (h : ∀ x ∈ op.operands, evOpd F x = evOpd F' x) : evLit P F op k = evLit P F' op k := by
  cases op with
  | buildSlice t n ps => simp only [evLit, parts_ops h]
  | _ => rfl
theorem evC_congr {F F' : Fr} {inl : Inl} {nx : Nat} {op : Op} {k : KC Y} (h : ∀ x ∈ op.operands, evOpd F x = evOpd F' x) : evC C inl H nx F op k = evC C inl H nx F' op k := by
  cases op with
  | box e x => simp only [evC, h x (by simp [Op.operands])]
  | buildSlice t n ps => simp only [evC, parts_ops h]
  | makeSlice t l c => simp only [evC, h l (by simp [Op.operands]), h c (by simp [Op.operands])]
  | store t x z => simp only [evC, h x (by simp [Op.operands]), h z (by simp [Op.operands])]
  | call c =>
    have h1 : argsA F c.args.toList = argsA F' c.args.toList := argsA_congr fun x hx => h x (by simp [Op.operands, Call.operands]; right; simpa using hx)
    simp only [evC, h1]
    split
    · rename_i f hf
      rw [h f (by simp [Op.operands, Call.operands, hf])]
    · rename_i x n hf
      rw [h x (by simp [Op.operands, Call.operands, hf])]
    · rfl
    · rfl
    · rfl
  | _ => rfl
theorem fixedA_get {x : AV} (h : fixedA x = true) : (∃ k xs, x = .at (.roi k xs)) ∨ (∃ t, x = .at (.ror t)) ∨ (∃ cs, x = .at (.rop cs)) ∨ x = .at .nils := by
  unfold fixedA at h
  split at h
  · exact Or.inl ⟨_, _, rfl⟩
  · exact Or.inr (Or.inl ⟨_, rfl⟩)
  · exact Or.inr (Or.inr (Or.inl ⟨_, rfl⟩))
  · exact Or.inr (Or.inr (Or.inr rfl))
  · simp at h
theorem evR_blind {H' : Heap} {o : Oper} {k : AV → Option Y} (h : looks F o = false) : evR P RT H F o.op k = evR P RT H' F o.op k := by
  unfold looks at h
  split at h
  · rename_i t x ho
    simp only [ho, evR]
    rcases fixedA_get (x := evOpd F x) (by simpa using h) with ⟨kd, xs, hx⟩ | ⟨tg, hx⟩ | ⟨cs, hx⟩ | hx <;> simp only [hx, evLoad]
  · rename_i t x ix ho
    simp only [ho, evR]
    rcases fixedA_get (x := evOpd F x) (by simpa using h) with ⟨kd, xs, hx⟩ | ⟨tg, hx⟩ | ⟨cs, hx⟩ | hx <;> (simp only [hx]; unfold evIndexAddr; cases P.underlying t with
      | none => rfl
      | some d => cases d <;> first | rfl | (cases evOpd F ix with
        | «at» z => cases z <;> rfl
        | _ => rfl))
  · rename_i t x lo hi mx ho
    simp only [ho, evR]
    rcases fixedA_get (x := evOpd F x) (by simpa using h) with ⟨kd, xs, hx⟩ | ⟨tg, hx⟩ | ⟨cs, hx⟩ | hx <;> (simp only [hx]; unfold evSlice; cases P.underlying t with
      | none => rfl
      | some d => cases d <;> first | rfl | (cases mx.isSome <;> rfl))
  · rename_i c ho
    simp only [ho, evR]
    split at h
    · rename_i hc
      simp only [hc]
      split at h
      · rename_i x hx
        split
        · rename_i x' t heq _
          rw [hx] at heq
          simp only [List.cons.injEq, and_true] at heq
          subst heq
          rcases fixedA_get (x := x) (by simpa using h) with ⟨kd, xs, hx⟩ | ⟨tg, hx⟩ | ⟨cs, hx⟩ | hx <;> (simp only [hx]; unfold evLen; cases P.underlying t with
            | none => rfl
            | some d => cases d <;> rfl)
        · rfl
      · simp at h
    · rename_i hne
      split
      · rfl
      · rfl
      · rename_i hc; exact absurd hc hne
      · rfl
  · rename_i h1 h2 h3 h4
    cases ho : o.op <;> first | exact absurd ho (h1 _ _) | exact absurd ho (h2 _ _ _) | exact absurd ho (h3 _ _ _ _ _) | exact absurd ho (h4 _) | rfl | (rename_i fn fs cs; cases fn <;> rfl)
noncomputable def only (l : Array Operand) (F : Fr) : Fr := fun t => open Classical in if Operand.tmp t ∈ l then F t else .at .unk
theorem only_opd {l : Array Operand} {F : Fr} {x : Operand} (hx : x ∈ l) : evOpd (only l F) x = evOpd F x := by
  cases x with
  | tmp t => simp only [evOpd, only]; rw [if_pos hx]
  | _ => rfl
theorem only_rf {l : Array Operand} (h : ∀ t, Operand.tmp t ∈ l → RV RT E (F t) (a.tmps.getD t undef)) : RF RT E (only l F) a := by
  intro t
  simp only [only]
  split
  · rename_i ht; exact h t ht
  · exact R.unk _
end Go.Eng
/-
  The engine, part twelve (b): a region in whatever order.
  Conditions: none; nothing is claimed of the program here.
-/
namespace Go.Eng
variable {RT : RoTab} {E : Env} {F : Fr} {a : Act} {H : Heap} {fp : Fp} {w : World} {P : Program} {Y : Type} {y : Y} {C : Cfg} {K : FCfg} {ops : Array Oper}
theorem binds_eq (e : Edge) : Region.binds .any e = bindsAny e.ground := by
  unfold Region.binds bindsAny
  cases e.ground <;> rfl
theorem bit_eq (n i : Nat) : bit n i = Nat.testBit n i := by
  have h : bit n i = Nat.beq ((n >>> i) &&& 1) 1 := rfl
  rw [h]
  unfold Nat.testBit
  rw [Nat.and_comm 1, Nat.and_one_is_mod]
  rcases Nat.mod_two_eq_zero_or_one (n >>> i) with h | h <;> rw [h] <;> rfl
theorem edgesOf_bit {acc : List Nat} {m : Nat} : ∀ {l : List Edge}, bit (edgesOf acc l) m = true → ∃ e ∈ l, bindsAny e.ground = true ∧ (e.on = m ∨ bit (nthD 0 acc e.on) m = true)
  | [], h => by simp [edgesOf, bit_eq] at h
  | e :: r, h => by
    simp only [edgesOf] at h
    split at h
    · rename_i hb
      rw [bit_eq] at h
      simp only [Nat.lor_eq, Nat.testBit_or, Bool.or_eq_true] at h
      rcases h with (h | h) | h
      · exact ⟨e, by simp, hb, Or.inr (by rw [bit_eq]; exact h)⟩
      · refine ⟨e, by simp, hb, Or.inl ?_⟩
        have h' : Nat.testBit (1 <<< e.on) m = true := h
        rw [Nat.shiftLeft_eq, Nat.one_mul, Nat.testBit_two_pow] at h'
        simpa using h'
      · obtain ⟨e', he', h'⟩ := edgesOf_bit (l := r) (by rw [bit_eq]; exact h)
        exact ⟨e', by simp [he'], h'⟩
    · obtain ⟨e', he', h'⟩ := edgesOf_bit (l := r) h
      exact ⟨e', by simp [he'], h'⟩
theorem ancsOf_get : ∀ {os : List Oper} {acc : List Nat}, (ancsOf acc os).take acc.length = acc ∧ (ancsOf acc os).length = acc.length + os.length ∧
    ∀ j o, os[j]? = some o → (ancsOf acc os)[acc.length + j]? = some (edgesOf ((ancsOf acc os).take (acc.length + j)) o.after.toList)
  | [], acc => ⟨by simp [ancsOf], by simp [ancsOf], fun j o h => by simp at h⟩
  | o :: os, acc => by
    obtain ⟨h1, h2, h3⟩ := ancsOf_get (os := os) (acc := snoc acc (edgesOf acc o.after.toList))
    simp only [ancsOf]
    rw [snoc_eq] at h1 h2 h3 ⊢
    simp only [List.length_append, List.length_singleton] at h1 h2 h3
    have hacc : (ancsOf (acc ++ [edgesOf acc o.after.toList]) os).take acc.length = acc := by
      have := congrArg (List.take acc.length) h1
      rw [List.take_take, Nat.min_eq_left (by omega)] at this
      simpa using this
    refine ⟨hacc, by simp only [List.length_cons]; omega, fun j o' hj => ?_⟩
    cases j with
    | zero =>
      simp at hj
      subst hj
      have hh : (ancsOf (acc ++ [edgesOf acc o.after.toList]) os)[acc.length]? = some (edgesOf acc o.after.toList) := by
        have := congrArg (fun l => l[acc.length]?) h1
        simp only [List.getElem?_take, if_pos (Nat.lt_succ_self acc.length)] at this
        rw [this]; simp
      rw [Nat.add_zero, hh, hacc]
    | succ j =>
      have := h3 j o' (by simpa using hj)
      rw [show acc.length + 1 + j = acc.length + (j + 1) by omega] at this
      exact this
theorem nthD_take {l : List Nat} {n i : Nat} (h : i < n) : nthD 0 (l.take n) i = nthD 0 l i := by
  rw [nthD_eq, nthD_eq, List.getD_eq_getElem?_getD, List.getD_eq_getElem?_getD, List.getElem?_take_of_lt h]
theorem backEdges_get : ∀ {os : List Oper} {i j : Nat} {o : Oper} {e : Edge}, backEdges i os = true → os[j]? = some o → e ∈ o.after → bindsAny e.ground = true → e.on < i + j
  | [], i, j, o, e, _, h, _, _ => by simp at h
  | o' :: os, i, 0, o, e, h, hj, he, hb => by
    simp at hj
    subst hj
    simp only [backEdges, Bool.and_eq_true] at h
    have key : ∀ l : List Edge, backEdges.go i l = true → e ∈ l → e.on < i := by
      intro l
      induction l with
      | nil => intro _ h; simp at h
      | cons e' r ih =>
        intro h hm
        simp only [backEdges.go, Bool.and_eq_true, Bool.or_eq_true, Bool.not_eq_true'] at h
        rcases List.mem_cons.1 hm with rfl | hm
        · rcases h.1 with h' | h'
          · rw [hb] at h'; simp at h'
          · exact blt_iff.1 h'
        · exact ih h.2 hm
    have := key _ h.1 (by simpa using he)
    omega
  | o' :: os, i, j + 1, o, e, h, hj, he, hb => by
    simp only [backEdges, Bool.and_eq_true] at h
    have := backEdges_get (os := os) h.2 (by simpa using hj) he hb
    omega
theorem rowOk_get {all : List Oper} {anc : Nat} {b : Oper} : ∀ {l : List Oper} {i j : Nat} {o : Oper}, rowOk all anc b i l = true → l[j]? = some o → pairOk all (bit anc (i + j)) o b = true
  | [], i, j, o, _, h => by simp at h
  | o' :: l, i, 0, o, h, hj => by
    simp at hj
    subst hj
    simp only [rowOk, Bool.and_eq_true] at h
    exact h.1
  | o' :: l, i, j + 1, o, h, hj => by
    simp only [rowOk, Bool.and_eq_true] at h
    have := rowOk_get h.2 (by simpa using hj : l[j]? = some o)
    rwa [show i + 1 + j = i + (j + 1) by omega] at this
theorem pairsOk_get {all : List Oper} : ∀ {os : List Oper} {ancs : List Nat} {done : List Oper}, pairsOk all ancs done os = true → ancs.length = os.length →
    ∀ (m i : Nat) (b x : Oper) (anc : Nat), os[m]? = some b → ancs[m]? = some anc → (done ++ os)[i]? = some x → i < done.length + m → pairOk all (bit anc i) x b = true
  | [], _, _, _, _, m, i, b, x, anc, h, _, _, _ => by simp at h
  | o :: os, [], _, _, hl, _, _, _, _, _, _, _, _, _ => by simp at hl
  | o :: os, anc0 :: ancs, done, h, hl, m, i, b, x, anc, hb, ha, hx, hi => by
    simp only [pairsOk, Bool.and_eq_true] at h
    cases m with
    | zero =>
      simp at hb ha
      subst hb
      subst ha
      rw [List.getElem?_append_left (by omega)] at hx
      have := rowOk_get h.1 hx
      rwa [Nat.zero_add] at this
    | succ m =>
      have h2 := h.2
      rw [snoc_eq] at h2
      refine pairsOk_get h2 (by simpa using hl) m i b x anc (by simpa using hb) (by simpa using ha) (by simpa using hx) ?_
      simp only [List.length_append, List.length_singleton]
      omega
theorem chainRow_get {anc : Nat} : ∀ {l : List Oper} {i j : Nat} {o : Oper}, chainRow K anc i l = true → l[j]? = some o → isC K o = true → bit anc (i + j) = true
  | [], i, j, o, _, h, _ => by simp at h
  | o' :: l, i, 0, o, h, hj, hc => by
    simp at hj
    subst hj
    simp only [chainRow, Bool.and_eq_true, Bool.or_eq_true, Bool.not_eq_true'] at h
    exact h.1.resolve_left (by rw [hc]; simp)
  | o' :: l, i, j + 1, o, h, hj, hc => by
    simp only [chainRow, Bool.and_eq_true] at h
    have := chainRow_get h.2 (by simpa using hj : l[j]? = some o) hc
    rwa [show i + 1 + j = i + (j + 1) by omega] at this
theorem chainOk_get : ∀ {os : List Oper} {ancs : List Nat} {done : List Oper}, chainOk K ancs done os = true → ancs.length = os.length →
    ∀ (m i : Nat) (b x : Oper) (anc : Nat), os[m]? = some b → ancs[m]? = some anc → (done ++ os)[i]? = some x → i < done.length + m → isC K b = true → isC K x = true → bit anc i = true
  | [], _, _, _, _, m, i, b, x, anc, h, _, _, _, _, _ => by simp at h
  | o :: os, [], _, _, hl, _, _, _, _, _, _, _, _, _, _, _ => by simp at hl
  | o :: os, anc0 :: ancs, done, h, hl, m, i, b, x, anc, hb, ha, hx, hi, hcb, hcx => by
    simp only [chainOk, Bool.and_eq_true, Bool.or_eq_true, Bool.not_eq_true'] at h
    cases m with
    | zero =>
      simp at hb ha
      subst hb
      subst ha
      rw [List.getElem?_append_left (by omega)] at hx
      have := chainRow_get (h.1.resolve_left (by rw [hcb]; simp)) hx hcx
      rwa [Nat.zero_add] at this
    | succ m =>
      have h2 := h.2
      rw [snoc_eq] at h2
      refine chainOk_get h2 (by simpa using hl) m i b x anc (by simpa using hb) (by simpa using ha) (by simpa using hx) ?_ hcb hcx
      simp only [List.length_append, List.length_singleton]
      omega
theorem fits_of {ancs : List Nat} {i : Nat} : ∀ {chs : List Nat} {τ : Nat}, (∀ t c, chs[t]? = some c → (t < τ → bit (nthD 0 ancs c) i = false) ∧ (τ ≤ t → bit (nthD 0 ancs i) c = false)) → fits ancs i τ chs = true
  | [], τ, _ => by cases τ <;> rfl
  | c :: cs, 0, h => by
    simp only [fits, Bool.and_eq_true, Bool.not_eq_true']
    exact ⟨(h 0 c rfl).2 (Nat.le_refl _), fits_of fun t c' hc => ⟨fun h => by omega, fun _ => (h (t + 1) c' (by simpa using hc)).2 (by omega)⟩⟩
  | c :: cs, τ + 1, h => by
    simp only [fits, Bool.and_eq_true, Bool.not_eq_true']
    exact ⟨(h 0 c rfl).1 (by omega), fits_of fun t c' hc => ⟨fun ht => (h (t + 1) c' (by simpa using hc)).1 (by omega), fun ht => (h (t + 1) c' (by simpa using hc)).2 (by omega)⟩⟩
theorem eqB_eq {a b : Bool} (h : eqB a b = true) : a = b := by cases a <;> cases b <;> simp [eqB] at h ⊢
theorem beq_eq' {a b : Nat} (h : Nat.beq a b = true) : a = b := Nat.eq_of_beq_eq_true h
theorem eqAtom_eq {x z : Atom} {k : Option Y} (h : eqAtom x z k = some y) : x = z ∧ k = some y := by
  unfold eqAtom at h
  split at h
  · rw [gate_some, chkI_some, eqK_iff] at h; obtain ⟨rfl, rfl, h⟩ := h; exact ⟨rfl, h⟩
  · rw [chkB_some] at h; obtain ⟨rfl, h⟩ := h; exact ⟨rfl, h⟩
  · exact ⟨rfl, h⟩
  · exact ⟨rfl, h⟩
  · rw [gate_some, chkN_some] at h; obtain ⟨h1, rfl, h⟩ := h; rw [beq_eq' h1]; exact ⟨rfl, h⟩
  · rw [gate_some, chkN_some] at h; obtain ⟨h1, rfl, h⟩ := h; simp only [Bool.and_eq_true] at h1; rw [beq_eq' h1.1, beq_eq' h1.2]; exact ⟨rfl, h⟩
  · rw [gate_some] at h; obtain ⟨h1, h⟩ := h; simp only [Bool.and_eq_true] at h1; rw [beq_eq' h1.1, eqB_eq h1.2]; exact ⟨rfl, h⟩
  · rw [gate_some, chkN_some, chkN_some] at h; obtain ⟨h1, rfl, rfl, h⟩ := h; rw [beq_eq' h1]; exact ⟨rfl, h⟩
  · rw [gate_some, chkL_some, eqK_iff] at h; obtain ⟨rfl, rfl, h⟩ := h; exact ⟨rfl, h⟩
  · rw [gate_some] at h; obtain ⟨h1, h⟩ := h; rw [beq_eq' h1]; exact ⟨rfl, h⟩
  · simp at h
theorem eqAtoms_eq : ∀ {xs zs : List Atom} {k : Option Y}, eqAtoms xs zs k = some y → xs = zs ∧ k = some y
  | [], [], k, h => ⟨rfl, h⟩
  | x :: xs, z :: zs, k, h => by
    simp only [eqAtoms] at h
    obtain ⟨rfl, h1⟩ := eqAtom_eq h
    obtain ⟨rfl, h2⟩ := eqAtoms_eq h1
    exact ⟨rfl, h2⟩
  | [], _ :: _, _, h => by simp [eqAtoms] at h
  | _ :: _, [], _, h => by simp [eqAtoms] at h
theorem eqAV_eq {x z : AV} {k : Option Y} (h : eqAV x z k = some y) : x = z ∧ k = some y := by
  unfold eqAV at h
  split at h
  · obtain ⟨rfl, h1⟩ := eqAtom_eq h; exact ⟨rfl, h1⟩
  · obtain ⟨rfl, h1⟩ := eqAtoms_eq h; exact ⟨rfl, h1⟩
  · simp at h
theorem checkRd_get {ancs chs : List Nat} {rd : Rd} {k : Option Y} : ∀ {hs : List Heap} {τ : Nat}, checkRd C ancs chs rd τ hs k = some y →
    k = some y ∧ ∀ t H, hs[t]? = some H → fits ancs rd.i (τ + t) chs = true → τ + t ≠ rd.τ → evR C.P C.RT H rd.F rd.op some = some rd.v
  | [], τ, h => ⟨h, fun t H ht => by simp at ht⟩
  | H :: hs, τ, h => by
    have step : ∀ {k' : Option Y}, (k' = checkRd C ancs chs rd (τ + 1) hs k) → k' = some y → (fits ancs rd.i τ chs = true → τ ≠ rd.τ → evR C.P C.RT H rd.F rd.op some = some rd.v) →
        k = some y ∧ ∀ t H', (H :: hs)[t]? = some H' → fits ancs rd.i (τ + t) chs = true → τ + t ≠ rd.τ → evR C.P C.RT H' rd.F rd.op some = some rd.v := by
      rintro k' rfl hk' h0
      obtain ⟨h1, h2⟩ := checkRd_get hk'
      refine ⟨h1, fun t H' ht hf hne => ?_⟩
      cases t with
      | zero => simp at ht; subst ht; exact h0 hf hne
      | succ t =>
        refine h2 t H' (by simpa using ht) ?_ ?_
        · rwa [show τ + 1 + t = τ + (t + 1) by omega]
        · omega
    simp only [checkRd] at h
    split at h
    · obtain ⟨v, h1, h2⟩ := evR_cp Y _ y h
      obtain ⟨rfl, h3⟩ := eqAV_eq h2
      exact step rfl h3 fun _ _ => h1
    · rename_i hg
      refine step rfl h fun hf hne => ?_
      exfalso
      have : Nat.beq τ rd.τ = false := by
        cases hb : Nat.beq τ rd.τ with
        | false => rfl
        | true => exact absurd (beq_eq' hb) hne
      rw [hf, this] at hg
      simp at hg
theorem checkRds_get {ancs chs : List Nat} {hs : List Heap} {k : Option Y} : ∀ {rds : List Rd}, checkRds C ancs chs hs rds k = some y →
    k = some y ∧ ∀ rd ∈ rds, ∀ t H, hs[t]? = some H → fits ancs rd.i t chs = true → t ≠ rd.τ → evR C.P C.RT H rd.F rd.op some = some rd.v
  | [], h => ⟨h, fun rd hr => by simp at hr⟩
  | rd :: rds, h => by
    simp only [checkRds] at h
    obtain ⟨h1, h2⟩ := checkRd_get h
    obtain ⟨h3, h4⟩ := checkRds_get h1
    refine ⟨h3, fun rd' hr => ?_⟩
    rcases List.mem_cons.1 hr with rfl | hr
    · intro t H ht hf hne
      exact h2 t H ht (by rwa [Nat.zero_add]) (by rwa [Nat.zero_add])
    · exact h4 rd' hr
end Go.Eng
/-
  The engine, part twelve (c): what happens in the text's order, written down.
  Conditions: none; nothing is claimed of the program here.
-/
namespace Go.Eng
variable {RT : RoTab} {E : Env} {F : Fr} {a : Act} {H : Heap} {fp : Fp} {w : World} {P : Program} {Y : Type} {y : Y} {C : Cfg} {K : FCfg} {ops : Array Oper}
structure Rec where
  wd : Bool
  F : Fr
  H : Heap
  nx : Nat
  τ : Nat
  v : AV
def GuardRel (ops : Array Oper) (o : Oper) (RT : RoTab) (E : Env) (F : Fr) (a : Act) : Prop :=
  ∀ g want d, o.guard = some (g, want) → dstAt ops.toList g = some d → RV RT E (F d) (a.tmps.getD d undef)
def WantIs (ops : Array Oper) (o : Oper) (F : Fr) (b : Bool) : Prop :=
  ∀ (RT : RoTab) (E : Env) (a : Act), GuardRel ops o RT E F a → Region.wanted o (yielded ops a.tmps) = b
theorem evGuard_all {o : Oper} {yes no : Fr → Option Y} (hk : evGuard ops.toList o F yes no = some y) :
    (WantIs ops o F true ∧ yes F = some y) ∨ (WantIs ops o F false ∧ no F = some y) := by
  unfold evGuard at hk
  split at hk
  · rename_i hg
    exact Or.inl ⟨fun _ _ _ _ => by simp [Region.wanted, hg], hk⟩
  · rename_i g want hg
    split at hk
    · simp at hk
    · rename_i d hd
      split at hk
      · rename_i b hb
        have hy : ∀ RT E a, GuardRel ops o RT E F a → yielded ops a.tmps g = some b := by
          intro RT E a hF
          have hv := hF g want d hg hd
          rw [hb] at hv
          have hv' : R RT E (.bool b) (a.tmps.getD d undef) := hv
          have hv2 := getD_bool (R.bool_inv hv')
          unfold dstAt at hd
          split at hd
          · rename_i og hog
            rw [nth_eq] at hog
            have : ops[g]? = some og := by simpa using hog
            simp [yielded, this, hd, hv2]
          · simp at hd
        cases b with
        | true =>
          simp only [br] at hk
          rw [putF_id F d hb] at hk
          cases want with
          | true => exact Or.inl ⟨fun RT E a hF => by simp [Region.wanted, hg, hy RT E a hF], hk⟩
          | false => exact Or.inr ⟨fun RT E a hF => by simp [Region.wanted, hg, hy RT E a hF], hk⟩
        | false =>
          simp only [br] at hk
          rw [putF_id F d hb] at hk
          cases want with
          | true => exact Or.inr ⟨fun RT E a hF => by simp [Region.wanted, hg, hy RT E a hF], hk⟩
          | false => exact Or.inl ⟨fun RT E a hF => by simp [Region.wanted, hg, hy RT E a hF], hk⟩
      · rename_i hb
        have hy : ∀ RT E a, GuardRel ops o RT E F a → yielded ops a.tmps g = none := by
          intro RT E a hF
          have hv := hF g want d hg hd
          rw [hb] at hv
          have hv' : R RT E .und (a.tmps.getD d undef) := hv
          exact yielded_und hd (R.und_inv hv')
        exact Or.inr ⟨fun RT E a hF => by simp [Region.wanted, hg, hy RT E a hF], hk⟩
      · simp at hk
def RecOK (C : Cfg) (K : FCfg) (ops : Array Oper) (o : Oper) (r r' : Rec) : Prop :=
  (r.wd = false ∧ WantIs ops o r.F false ∧ r.v = .at .und ∧ r'.F = putO r.F o.dst r.v ∧ r'.H = r.H ∧ r'.nx = r.nx ∧ r'.τ = r.τ) ∨
  (r.wd = true ∧ WantIs ops o r.F true ∧ r'.F = putO r.F o.dst r.v ∧
    ((isC K o = true ∧ evC C noInl r.H r.nx r.F o.op (fun v H n => some (v, H, n)) = some (r.v, r'.H, r'.nx) ∧ r'.τ = r.τ + 1) ∨
     (isC K o = false ∧ isLit K o = true ∧ evLit C.P r.F o.op some = some r.v ∧ r'.H = r.H ∧ r'.nx = r.nx ∧ r'.τ = r.τ) ∨
     (isC K o = false ∧ isLit K o = false ∧ evR C.P C.RT r.H r.F o.op some = some r.v ∧ r'.H = r.H ∧ r'.nx = r.nx ∧ r'.τ = r.τ)))
structure TraceOK (C : Cfg) (K : FCfg) (ops : Array Oper) (ancs : List Nat) (k : KS Y) (y : Y) (i m : Nat) (F : Fr) (H : Heap) (nx : Nat) (hs : List Heap) (chs : List Nat) (rds : List Rd)
    (r : Nat → Rec) (hsF : List Heap) (chsF : List Nat) (rdsF : List Rd) : Prop where
  start : (r i).F = F ∧ (r i).H = H ∧ (r i).nx = nx ∧ (r i).τ = chs.length
  step : ∀ j o, i ≤ j → ops[j]? = some o → RecOK C K ops o (r j) (r (j + 1))
  heap : ∀ j, i ≤ j → j ≤ i + m → hsF[(r j).τ]? = some (r j).H
  pre : ∃ t, hsF = hs ++ t
  cpre : ∃ t, chsF = chs ++ t
  rpre : ∀ rd, rd ∈ rds → rd ∈ rdsF
  last : (r (i + m)).τ = chsF.length
  ch : ∀ j o, i ≤ j → ops[j]? = some o → isC K o = true → (r j).wd = true → chsF[(r j).τ]? = some j
  chI : ∀ t c, chs.length ≤ t → chsF[t]? = some c → i ≤ c ∧ (r c).τ = t ∧ ∃ o, ops[c]? = some o ∧ isC K o = true ∧ (r c).wd = true
  rd : ∀ j o, i ≤ j → ops[j]? = some o → isC K o = false → isLit K o = false → looks (r j).F o = true → (r j).wd = true → (⟨j, o.op, (r j).F, (r j).v, (r j).τ⟩ : Rd) ∈ rdsF
  fin : checkRds C ancs chsF hsF rdsF (k (r (i + m)).F (r (i + m)).H (r (i + m)).nx) = some y
theorem TraceOK.cons {ancs : List Nat} {k : KS Y} {i m : Nat} {o : Oper} {F' : Fr} {H' : Heap} {nx nx' : Nat} {hs t1 : List Heap} {chs t2 : List Nat} {rds rds' : List Rd} {r : Nat → Rec} {hsF : List Heap} {chsF : List Nat} {rdsF : List Rd} {wd : Bool} {v : AV}
    (ho : ops[i]? = some o) (h : TraceOK C K ops ancs k y (i + 1) m F' H' nx' (hs ++ t1) (chs ++ t2) rds' r hsF chsF rdsF)
    (hstep : RecOK C K ops o ⟨wd, F, H, nx, chs.length, v⟩ (r (i + 1))) (hhs : hs[chs.length]? = some H) (hrd : ∀ rd, rd ∈ rds → rd ∈ rds')
    (ht2 : (isC K o = true ∧ wd = true ∧ t2 = [i]) ∨ ((isC K o = false ∨ wd = false) ∧ t2 = []))
    (hrd2 : isC K o = false → isLit K o = false → looks F o = true → wd = true → (⟨i, o.op, F, v, chs.length⟩ : Rd) ∈ rds') :
    TraceOK C K ops ancs k y i (m + 1) F H nx hs chs rds (fun j => if j = i then ⟨wd, F, H, nx, chs.length, v⟩ else r j) hsF chsF rdsF := by
  have hne : ∀ {j}, i + 1 ≤ j → j ≠ i := fun {j} h => by omega
  have hpre : ∃ t, hsF = hs ++ t := by
    obtain ⟨t, ht⟩ := h.pre
    exact ⟨t1 ++ t, by rw [ht, List.append_assoc]⟩
  have hcpre : ∃ t, chsF = chs ++ t := by
    obtain ⟨t, ht⟩ := h.cpre
    exact ⟨t2 ++ t, by rw [ht, List.append_assoc]⟩
  have hlast : i + (m + 1) = i + 1 + m := by omega
  refine ⟨by simp, fun j o' hj ho' => ?_, fun j hj hjm => ?_, hpre, hcpre, fun rd hr => h.rpre rd (hrd rd hr), ?_, fun j o' hj ho' hc hw => ?_, fun t c ht hc => ?_, fun j o' hj ho' hc hl hk hw => ?_, ?_⟩
  · by_cases he : j = i
    · subst he
      rw [ho] at ho'
      obtain rfl := Option.some.inj ho'
      simp only [if_true, if_neg (show j + 1 ≠ j by omega)]
      exact hstep
    · simp only [if_neg he, if_neg (show j + 1 ≠ i by omega)]
      exact h.step j o' (by omega) ho'
  · by_cases he : j = i
    · subst he
      simp only [if_true]
      obtain ⟨t, ht⟩ := hpre
      rw [ht, List.getElem?_append_left]
      · exact hhs
      · rcases Nat.lt_or_ge chs.length hs.length with h' | h'
        · exact h'
        · rw [List.getElem?_eq_none h'] at hhs; simp at hhs
    · simp only [if_neg he]
      exact h.heap j (by omega) (by omega)
  · rw [if_neg (show i + (m + 1) ≠ i by omega), hlast]
    exact h.last
  · by_cases he : j = i
    · subst he
      rw [ho] at ho'
      obtain rfl := Option.some.inj ho'
      simp only [if_true] at hw ⊢
      rcases ht2 with ⟨_, _, rfl⟩ | ⟨h1 | h1, _⟩
      · obtain ⟨t, ht⟩ := h.cpre
        rw [ht]
        simp
      · rw [hc] at h1; simp at h1
      · rw [hw] at h1; simp at h1
    · simp only [if_neg he] at hw ⊢
      exact h.ch j o' (by omega) ho' hc hw
  · by_cases he : chs.length + t2.length ≤ t
    · obtain ⟨h1, h2, h3⟩ := h.chI t c (by simpa using he) hc
      refine ⟨by omega, ?_, ?_⟩
      · rw [if_neg (hne h1)]; exact h2
      · simp only [if_neg (hne h1)]; exact h3
    · rcases ht2 with ⟨h1, h2, rfl⟩ | ⟨_, rfl⟩
      · simp only [List.length_singleton] at he
        have ht' : t = chs.length := by omega
        subst ht'
        obtain ⟨t', ht'⟩ := h.cpre
        rw [ht'] at hc
        simp at hc
        subst hc
        exact ⟨Nat.le_refl _, by simp, o, ho, h1, by simp [h2]⟩
      · simp only [List.length_nil] at he; omega
  · by_cases he : j = i
    · subst he
      rw [ho] at ho'
      obtain rfl := Option.some.inj ho'
      simp only [if_true] at hk hw ⊢
      exact h.rpre _ (hrd2 hc hl hk hw)
    · simp only [if_neg he] at hk hw ⊢
      exact h.rd j o' (by omega) ho' hc hl hk hw
  · rw [if_neg (show i + (m + 1) ≠ i by omega), hlast]
    exact h.fin
theorem len_eq' {α : Type} : ∀ l : List α, len l = l.length
  | [] => rfl
  | _ :: r => by simp [len, len_eq' r]
theorem evOpsA_trace (hC : CfgOK C) {ancs : List Nat} {k : KS Y} : ∀ (os : List Oper) (i : Nat) (F : Fr) (H : Heap) (nx : Nat) (hs : List Heap) (chs : List Nat) (rds : List Rd),
    evOpsA C K noInl ops.toList ancs i os F H nx hs chs rds k = some y → hs[chs.length]? = some H → hs.length = chs.length + 1 → (∀ j, os[j]? = ops[i + j]?) →
    ∃ r hsF chsF rdsF, TraceOK C K ops ancs k y i os.length F H nx hs chs rds r hsF chsF rdsF
  | [], i, F, H, nx, hs, chs, rds, hk, hh, hl, ho => by
    simp only [evOpsA] at hk
    refine ⟨fun _ => ⟨false, F, H, nx, chs.length, .at .unk⟩, hs, chs, rds, ⟨⟨rfl, rfl, rfl, rfl⟩, fun j o hj hjo => ?_, fun j _ _ => hh, ⟨[], by simp⟩, ⟨[], by simp⟩, fun _ h => h, rfl,
      fun j o hj hjo => ?_, fun t c ht hc => ?_, fun j o hj hjo => ?_, hk⟩⟩
    · have := ho (j - i)
      rw [show i + (j - i) = j by omega, hjo] at this
      simp at this
    · have := ho (j - i)
      rw [show i + (j - i) = j by omega, hjo] at this
      simp at this
    · rw [List.getElem?_eq_none (by omega)] at hc; simp at hc
    · have := ho (j - i)
      rw [show i + (j - i) = j by omega, hjo] at this
      simp at this
  | o :: os, i, F, H, nx, hs, chs, rds, hk, hh, hl, ho => by
    have ho0 : ops[i]? = some o := by simpa using (ho 0).symm
    have ho' : ∀ j, os[j]? = ops[i + 1 + j]? := fun j => by
      have := ho (j + 1)
      rw [show i + (j + 1) = i + 1 + j by omega] at this
      simpa using this
    simp only [evOpsA] at hk
    rcases evGuard_all hk with ⟨hw, hk⟩ | ⟨hw, hk⟩
    · simp only [evOne] at hk
      cases hc : isC K o with
      | true =>
        simp only [hc, named_eq] at hk
        obtain ⟨⟨v, H', nx'⟩, h1, h2⟩ := evC_cp hC hk
        simp only at h2
        rw [snoc_eq, snoc_eq] at h2
        obtain ⟨r, hsF, chsF, rdsF, ht⟩ := evOpsA_trace hC os (i + 1) _ _ _ _ _ _ h2 (by
          rw [List.getElem?_append_right (by simp; omega)]
          simp [hl]) (by simp [hl]) ho'
        obtain ⟨s1, s2, s3, s4⟩ := ht.start
        refine ⟨_, hsF, chsF, rdsF, ht.cons (wd := true) (v := v) ho0 (Or.inr ⟨rfl, hw, s1, Or.inl ⟨hc, ?_, by rw [s4]; simp⟩⟩) hh (fun _ h => h) (Or.inl ⟨hc, rfl, rfl⟩) (fun h => by rw [hc] at h; simp at h)⟩
        rw [s2, s3]; exact h1
      | false =>
        simp only [hc] at hk
        cases hlit : isLit K o with
        | true =>
          simp only [hlit] at hk
          obtain ⟨v, h1, h2⟩ := evLit_cp _ _ _ hk
          have hlk : looks F o = false := by
            unfold isLit at hlit
            unfold looks
            split at hlit
            · rename_i hop _; simp [hop]
            · simp at hlit
          simp only [hlk] at h2
          obtain ⟨r, hsF, chsF, rdsF, ht⟩ := evOpsA_trace hC os (i + 1) _ _ _ hs chs rds h2 hh hl ho'
          obtain ⟨s1, s2, s3, s4⟩ := ht.start
          refine ⟨_, hsF, chsF, rdsF, TraceOK.cons (t1 := []) (t2 := []) (wd := true) (v := v) ho0 (by simpa using ht) (Or.inr ⟨rfl, hw, s1, Or.inr (Or.inl ⟨hc, hlit, h1, s2, s3, s4⟩)⟩) hh (fun _ h => h) (Or.inr ⟨Or.inl hc, rfl⟩) (fun _ h => by rw [hlit] at h; simp at h)⟩
        | false =>
          simp only [hlit, named_eq] at hk
          obtain ⟨v, h1, h2⟩ := evR_cp _ _ _ hk
          cases hlk : looks F o with
          | true =>
            simp only [hlk] at h2
            obtain ⟨r, hsF, chsF, rdsF, ht⟩ := evOpsA_trace hC os (i + 1) _ _ _ hs chs _ h2 hh hl ho'
            obtain ⟨s1, s2, s3, s4⟩ := ht.start
            refine ⟨_, hsF, chsF, rdsF, TraceOK.cons (t1 := []) (t2 := []) (wd := true) (v := v) ho0 (by simpa using ht) (Or.inr ⟨rfl, hw, s1, Or.inr (Or.inr ⟨hc, hlit, h1, s2, s3, s4⟩)⟩) hh (fun _ h => by simp [h]) (Or.inr ⟨Or.inl hc, rfl⟩) (fun _ _ _ _ => by simp [len_eq'])⟩
          | false =>
            simp only [hlk] at h2
            obtain ⟨r, hsF, chsF, rdsF, ht⟩ := evOpsA_trace hC os (i + 1) _ _ _ hs chs _ h2 hh hl ho'
            obtain ⟨s1, s2, s3, s4⟩ := ht.start
            refine ⟨_, hsF, chsF, rdsF, TraceOK.cons (t1 := []) (t2 := []) (wd := true) (v := v) ho0 (by simpa using ht) (Or.inr ⟨rfl, hw, s1, Or.inr (Or.inr ⟨hc, hlit, h1, s2, s3, s4⟩)⟩) hh (fun _ h => h) (Or.inr ⟨Or.inl hc, rfl⟩) (fun _ _ h => by rw [hlk] at h; simp at h)⟩
    · obtain ⟨r, hsF, chsF, rdsF, ht⟩ := evOpsA_trace hC os (i + 1) _ _ _ hs chs _ hk hh hl ho'
      obtain ⟨s1, s2, s3, s4⟩ := ht.start
      refine ⟨_, hsF, chsF, rdsF, TraceOK.cons (t1 := []) (t2 := []) (wd := false) (v := .at .und) ho0 (by simpa using ht) (Or.inl ⟨rfl, hw, rfl, s1, s2, s3, s4⟩) hh (fun _ h => h) (Or.inr ⟨Or.inr rfl, rfl⟩) (fun _ _ _ h => by simp at h)⟩
end Go.Eng
/-
  The engine, part twelve (d): a region in whatever order comes to what it comes to in the text's.
  Conditions: none; nothing is claimed of the program here.
-/
namespace Go.Eng
variable {RT : RoTab} {E : Env} {F : Fr} {a : Act} {H : Heap} {fp : Fp} {w : World} {P : Program} {Y : Type} {y : Y} {C : Cfg} {K : FCfg} {ops : Array Oper}
structure Setup (C : Cfg) (K : FCfg) (ops : Array Oper) (k : KS Y) (y : Y) (F : Fr) (H : Heap) (nx N : Nat) (r : Nat → Rec) (hsF : List Heap) (chsF : List Nat) (rdsF : List Rd) : Prop where
  hC : CfgOK C
  tr : TraceOK C K ops (ancsOf [] ops.toList) k y 0 ops.size F H nx [H] [] [] r hsF chsF rdsF
  back : backEdges 0 ops.toList = true
  pairs : pairsOk ops.toList (ancsOf [] ops.toList) [] ops.toList = true
  chain : chainOk K (ancsOf [] ops.toList) [] ops.toList = true
  dst : dstOps N ops.toList = true
variable {k : KS Y} {nx N : Nat} {r : Nat → Rec} {hsF : List Heap} {chsF : List Nat} {rdsF : List Rd}
theorem op_lt {i : Nat} {o : Oper} (h : ops[i]? = some o) : i < ops.size := (Array.getElem?_eq_some_iff.1 h).1
theorem Setup.τ_step (S : Setup C K ops k y F H nx N r hsF chsF rdsF) {j : Nat} (hj : j < ops.size) : (r j).τ ≤ (r (j + 1)).τ ∧ ((r j).τ = (r (j + 1)).τ → (r j).nx = (r (j + 1)).nx) := by
  have h := S.tr.step j ops[j] (Nat.zero_le _) (by simp [hj])
  rcases h with ⟨_, _, _, _, _, h1, h2⟩ | ⟨_, _, _, ⟨_, _, h2⟩ | ⟨_, _, _, _, h1, h2⟩ | ⟨_, _, _, _, h1, h2⟩⟩
  · exact ⟨by omega, fun _ => h1.symm⟩
  · exact ⟨by omega, fun h => by omega⟩
  · exact ⟨by omega, fun _ => h1.symm⟩
  · exact ⟨by omega, fun _ => h1.symm⟩
theorem Setup.τ_mono (S : Setup C K ops k y F H nx N r hsF chsF rdsF) {j : Nat} : ∀ d, j + d ≤ ops.size → (r j).τ ≤ (r (j + d)).τ ∧ ((r j).τ = (r (j + d)).τ → (r j).nx = (r (j + d)).nx)
  | 0, _ => ⟨Nat.le_refl _, fun _ => rfl⟩
  | d + 1, h => by
    obtain ⟨h1, h2⟩ := S.τ_mono (j := j) d (by omega)
    obtain ⟨h3, h4⟩ := S.τ_step (j := j + d) (by omega)
    rw [show j + (d + 1) = j + d + 1 by omega]
    exact ⟨by omega, fun he => (h2 (by omega)).trans (h4 (by omega))⟩
theorem Setup.τ_le (S : Setup C K ops k y F H nx N r hsF chsF rdsF) {i j : Nat} (hij : i ≤ j) (hj : j ≤ ops.size) : (r i).τ ≤ (r j).τ := by
  have := (S.τ_mono (j := i) (j - i) (by omega)).1
  rwa [show i + (j - i) = j by omega] at this
theorem Setup.same_time (S : Setup C K ops k y F H nx N r hsF chsF rdsF) {i j : Nat} (hi : i ≤ ops.size) (hj : j ≤ ops.size) (h : (r i).τ = (r j).τ) : (r i).H = (r j).H ∧ (r i).nx = (r j).nx := by
  constructor
  · have h1 := S.tr.heap i (Nat.zero_le _) (by omega)
    have h2 := S.tr.heap j (Nat.zero_le _) (by omega)
    rw [h, h2] at h1
    exact (Option.some.inj h1).symm
  · rcases Nat.le_total i j with hij | hij
    · have := (S.τ_mono (j := i) (j - i) (by omega)).2
      rw [show i + (j - i) = j by omega] at this
      exact this h
    · have := (S.τ_mono (j := j) (i - j) (by omega)).2
      rw [show j + (i - j) = i by omega] at this
      exact (this h.symm).symm
theorem Setup.frame (S : Setup C K ops k y F H nx N r hsF chsF rdsF) : ∀ (j t : Nat), j ≤ ops.size →
    (∃ m o, m < j ∧ ops[m]? = some o ∧ o.dst = some t ∧ (r j).F t = (r m).v) ∨ ((∀ m o, m < j → ops[m]? = some o → o.dst ≠ some t) ∧ (r j).F t = F t)
  | 0, t, _ => Or.inr ⟨fun m o h => by omega, by rw [S.tr.start.1]⟩
  | j + 1, t, hj => by
    have hoj : ops[j]? = some ops[j] := by simp [show j < ops.size by omega]
    have hF : (r (j + 1)).F = putO (r j).F ops[j].dst (r j).v := by
      rcases S.tr.step j _ (Nat.zero_le _) hoj with ⟨_, _, _, h, _⟩ | ⟨_, _, h, _⟩ <;> exact h
    by_cases hd : ops[j].dst = some t
    · refine Or.inl ⟨j, _, by omega, hoj, hd, ?_⟩
      rw [hF, hd]
      simp only [putO, putF_same]
    · have hFt : (r (j + 1)).F t = (r j).F t := by
        rw [hF]
        cases hdd : ops[j].dst with
        | none => rfl
        | some d =>
          simp only [putO]
          exact putF_other fun he => hd (by rw [hdd, he])
      rcases S.frame j t (by omega) with ⟨m, o, h1, h2, h3, h4⟩ | ⟨h1, h2⟩
      · exact Or.inl ⟨m, o, by omega, h2, h3, by rw [hFt, h4]⟩
      · refine Or.inr ⟨fun m o hm ho => ?_, by rw [hFt, h2]⟩
        by_cases he : m = j
        · subst he
          rw [hoj] at ho
          obtain rfl := Option.some.inj ho
          exact hd
        · exact h1 m o (by omega) ho
theorem anc_get {i : Nat} {o : Oper} (h : ops[i]? = some o) : (ancsOf [] ops.toList)[i]? = some (edgesOf ((ancsOf [] ops.toList).take i) o.after.toList) := by
  have := (ancsOf_get (os := ops.toList) (acc := [])).2.2 i o (by simpa using h)
  simpa using this
theorem anc_len : (ancsOf [] ops.toList).length = ops.toList.length := by
  have := (ancsOf_get (os := ops.toList) (acc := [])).2.1
  simpa using this
theorem Setup.pair (S : Setup C K ops k y F H nx N r hsF chsF rdsF) {i m : Nat} {x b : Oper} (hx : ops[i]? = some x) (hb : ops[m]? = some b) (him : i < m) :
    pairOk ops.toList (bit (nthD 0 (ancsOf [] ops.toList) m) i) x b = true := by
  have ha := anc_get hb
  have := pairsOk_get S.pairs anc_len m i b x _ (by simpa using hb) ha (by simpa using hx) (by simpa using him)
  rwa [show nthD 0 (ancsOf [] ops.toList) m = edgesOf ((ancsOf [] ops.toList).take m) b.after.toList by rw [nthD_eq, List.getD_eq_getElem?_getD, ha]; rfl]
theorem Setup.chained (S : Setup C K ops k y F H nx N r hsF chsF rdsF) {i m : Nat} {x b : Oper} (hx : ops[i]? = some x) (hb : ops[m]? = some b) (him : i < m) (hcx : isC K x = true) (hcb : isC K b = true) :
    bit (nthD 0 (ancsOf [] ops.toList) m) i = true := by
  have ha := anc_get hb
  have := chainOk_get S.chain anc_len m i b x _ (by simpa using hb) ha (by simpa using hx) (by simpa using him) hcb hcx
  rwa [show nthD 0 (ancsOf [] ops.toList) m = edgesOf ((ancsOf [] ops.toList).take m) b.after.toList by rw [nthD_eq, List.getD_eq_getElem?_getD, ha]; rfl]
theorem eqO_some {x z : Option Tmp} {d : Tmp} (hx : x = some d) (hz : z = some d) : eqO x z = true := by
  subst hx; subst hz; simp [eqO]
theorem Setup.dst_ne (S : Setup C K ops k y F H nx N r hsF chsF rdsF) {i m : Nat} {x b : Oper} {d : Tmp} (hx : ops[i]? = some x) (hb : ops[m]? = some b) (hxd : x.dst = some d) (hbd : b.dst = some d) : i = m := by
  have key : ∀ {i m : Nat} {x b : Oper}, ops[i]? = some x → ops[m]? = some b → x.dst = some d → b.dst = some d → ¬ i < m := by
    intro i m x b hx hb hxd hbd him
    have := S.pair hx hb him
    unfold pairOk at this
    rw [eqO_some hxd hbd] at this
    simp at this
  have h1 := key hx hb hxd hbd
  have h2 := key hb hx hbd hxd
  omega
theorem anc_done (hback : backEdges 0 ops.toList = true) {Λ : Array Bool} (hcl : ∀ j o, ops[j]? = some o → Λ.getD j false = true → ∀ e ∈ o.after, bindsAny e.ground = true → Λ.getD e.on false = true) :
    ∀ (n i : Nat) (o : Oper), i < n → ops[i]? = some o → (∀ e ∈ o.after, bindsAny e.ground = true → Λ.getD e.on false = true) → ∀ m, bit (nthD 0 (ancsOf [] ops.toList) i) m = true → Λ.getD m false = true
  | 0, i, o, h, _, _, _, _ => by omega
  | n + 1, i, o, h, ho, he, m, hm => by
    have ha := anc_get ho
    rw [nthD_eq, List.getD_eq_getElem?_getD, ha] at hm
    simp only [Option.getD_some] at hm
    obtain ⟨e, hel, hb, h1⟩ := edgesOf_bit hm
    have hel' : e ∈ o.after := by simpa using hel
    have hlt := backEdges_get hback (by simpa using ho : ops.toList[i]? = some o) hel' hb
    rw [Nat.zero_add] at hlt
    rcases h1 with rfl | h1
    · exact he e hel' hb
    · rw [nthD_take hlt] at h1
      have hlt2 : e.on < ops.size := by have := op_lt ho; omega
      have hon : ops[e.on]? = some ops[e.on] := by simp [hlt2]
      exact anc_done hback hcl n e.on _ (by omega) hon (hcl e.on _ hon (he e hel' hb)) m h1
structure Inv (C : Cfg) (K : FCfg) (ops : Array Oper) (F : Fr) (r : Nat → Rec) (N : Nat) (E0 : Env) (H0 : Heap) (fp0 : Fp) (w0 : World) (nx0 : Nat) (a0 : Act) (Λ : Array Bool) (E : Env) (fp : Fp) (w : World) (a : Act) (p : Nat) : Prop where
  size : Λ.size = ops.size
  closed : ∀ j o, ops[j]? = some o → Λ.getD j false = true → ∀ e ∈ o.after, bindsAny e.ground = true → Λ.getD e.on false = true
  pn : p ≤ ops.size
  time : ∀ c o, ops[c]? = some o → isC K o = true → (r c).wd = true → (Λ.getD c false = true ↔ (r c).τ < (r p).τ)
  sim : Sim C.RT E (r p).H fp w
  step : Step E0 H0 fp0 w0 nx0 E (r p).H fp w (r p).nx
  got : ∀ m o d, ops[m]? = some o → o.dst = some d → Λ.getD m false = true → RV C.RT E (r m).v (a.tmps.getD d undef)
  not : ∀ d, (∀ m o, ops[m]? = some o → o.dst = some d → Λ.getD m false = false) → RV C.RT E (F d) (a.tmps.getD d undef)
  asz : a.tmps.size = N
  df : a.defers = []
  same : Same (asgOps ops.toList) a0 a
variable {E0 : Env} {H0 : Heap} {fp0 : Fp} {w0 : World} {nx0 : Nat} {a0 : Act} {Λ : Array Bool} {p : Nat}
theorem opdTmps_mem : ∀ {l : List Operand} {t : Tmp}, Operand.tmp t ∈ l → t ∈ opdTmps l
  | [], t, h => by simp at h
  | x :: l, t, h => by
    rcases List.mem_cons.1 h with rfl | h
    · simp [opdTmps]
    · have := opdTmps_mem h
      cases x <;> simp [opdTmps, this]
theorem eyes_opd {all : List Oper} {o : Oper} {t : Tmp} (h : Operand.tmp t ∈ o.op.operands) : t ∈ eyes all o := by
  have := opdTmps_mem (l := o.op.operands.toList) (t := t) (by simpa using h)
  unfold eyes
  split
  · split
    · simp [this]
    · exact this
  · exact this
theorem eyes_guard {all : List Oper} {o : Oper} {g : Nat} {want : Bool} {d : Tmp} (h : o.guard = some (g, want)) (hd : dstAt all g = some d) : d ∈ eyes all o := by
  unfold eyes
  simp only [h, hd]
  simp
theorem memO_some {l : List Tmp} {x : Option Tmp} {d : Tmp} (hx : x = some d) (hd : d ∈ l) : memO l x = true := by
  subst hx
  exact mem_iff.2 hd
theorem Inv.sees (S : Setup C K ops k y F H nx N r hsF chsF rdsF) (I : Inv C K ops F r N E0 H0 fp0 w0 nx0 a0 Λ E fp w a p) {i : Nat} {o : Oper} (ho : ops[i]? = some o) (hun : Λ.getD i false = false)
    (hed : ∀ e ∈ o.after, bindsAny e.ground = true → Λ.getD e.on false = true) {t : Tmp} (ht : t ∈ eyes ops.toList o) : RV C.RT E ((r i).F t) (a.tmps.getD t undef) := by
  have hdone := anc_done S.back I.closed (i + 1) i o (by omega) ho hed
  rcases S.frame i t (by have := op_lt ho; omega) with ⟨m, om, h1, h2, h3, h4⟩ | ⟨h1, h2⟩
  · rw [h4]
    refine I.got m om t h2 h3 (hdone m ?_)
    have := S.pair h2 ho h1
    unfold pairOk at this
    rw [memO_some h3 ht] at this
    simp only [Bool.not_true, Bool.false_and, Bool.or_false, Bool.and_eq_true] at this
    exact this.2
  · rw [h2]
    refine I.not t fun m om hm hd => ?_
    have hmi : ¬ m < i := fun h => h1 m om h hm hd
    rcases Nat.lt_or_ge i m with him | him
    · have := S.pair ho hm him
      unfold pairOk at this
      rw [memO_some hd ht] at this
      simp only [Bool.not_true, Bool.and_false, Bool.or_false, Bool.and_eq_true] at this
      cases hl : Λ.getD m false with
      | false => rfl
      | true =>
        have := anc_done S.back I.closed (m + 1) m om (by omega) hm (I.closed m om hm hl) i this.2
        rw [hun] at this; simp at this
    · have : m = i := by omega
      rw [this]; exact hun
theorem getD_set_self {i : Nat} (h : i < Λ.size) : (Λ.setIfInBounds i true).getD i false = true := by
  simp [h]
theorem Inv.next (S : Setup C K ops k y F H nx N r hsF chsF rdsF) (I : Inv C K ops F r N E0 H0 fp0 w0 nx0 a0 Λ E fp w a p) {i : Nat} {o : Oper} (ho : ops[i]? = some o)
    (hed : ∀ e ∈ o.after, bindsAny e.ground = true → Λ.getD e.on false = true) {E' : Env} {fp' : Fp} {w' : World} {u : Value} {p' : Nat} (hp' : p' ≤ ops.size) (hs' : Sim C.RT E' (r p').H fp' w')
    (hst : Step E (r p).H fp w (r p).nx E' (r p').H fp' w' (r p').nx) (hv : RV C.RT E' (r i).v u)
    (ht : ∀ c o, ops[c]? = some o → isC K o = true → (r c).wd = true → ((Λ.setIfInBounds i true).getD c false = true ↔ (r c).τ < (r p').τ)) :
    Inv C K ops F r N E0 H0 fp0 w0 nx0 a0 (Λ.setIfInBounds i true) E' fp' w' (a.put o.dst u) p' := by
  have hi := op_lt ho
  have hdl : ∀ d, o.dst = some d → d < a.tmps.size := by
    intro d hd
    rw [I.asz]
    have key : ∀ l : List Oper, dstOps N l = true → o ∈ l → d < N := by
      intro l
      induction l with
      | nil => intro _ h; simp at h
      | cons x l ih =>
        intro h hm
        obtain ⟨h1, h2⟩ := dstOps_cons h
        rcases List.mem_cons.1 hm with rfl | hm
        · exact h1 d hd
        · exact ih h2 hm
    exact key _ S.dst (by simpa using Array.mem_of_getElem? ho)
  have hself : (Λ.setIfInBounds i true).getD i false = true := getD_set_self (by rw [I.size]; exact hi)
  refine ⟨by simp [I.size], fun j oj hj hl e he hb => ?_, hp', ht, hs', I.step.trans hst, fun m om d hm hd hl => ?_, fun d hd => ?_, by rw [Act.put_size]; exact I.asz, by cases o.dst <;> exact I.df, ?_⟩
  · by_cases hij : i = j
    · subst hij
      rw [ho] at hj
      obtain rfl := Option.some.inj hj
      exact getD_set_true (hed e he hb)
    · rw [getD_set_ne false hij] at hl
      exact getD_set_true (I.closed j oj hj hl e he hb)
  · by_cases him : i = m
    · subst him
      rw [ho] at hm
      obtain rfl := Option.some.inj hm
      rw [hd]
      simp only [Act.put]
      rw [getD_set_same (hdl d hd)]
      exact hv
    · rw [getD_set_ne false him] at hl
      have hne : o.dst ≠ some d := fun h => him (S.dst_ne ho hm h hd)
      have : (a.put o.dst u).tmps.getD d undef = a.tmps.getD d undef := by
        cases hod : o.dst with
        | none => rfl
        | some d' =>
          simp only [Act.put]
          exact getD_set_other fun he => hne (by rw [hod, he])
      rw [this]
      exact (I.got m om d hm hd hl).mono hst.le
  · have hne : o.dst ≠ some d := fun h => by
      have := hd i o ho h
      rw [hself] at this
      simp at this
    have : (a.put o.dst u).tmps.getD d undef = a.tmps.getD d undef := by
      cases hod : o.dst with
      | none => rfl
      | some d' =>
        simp only [Act.put]
        exact getD_set_other fun he => hne (by rw [hod, he])
    rw [this]
    refine (I.not d fun m om hm hdm => ?_).mono hst.le
    have := hd m om hm hdm
    by_cases him : i = m
    · subst him; rw [hself] at this; simp at this
    · rwa [getD_set_ne false him] at this
  · refine I.same.trans ((Same.put a o.dst u).mono fun j hj => ?_)
    have key : ∀ l : List Oper, o ∈ l → asgOps l j = true := by
      intro l
      induction l with
      | nil => intro h; simp at h
      | cons x l ih =>
        intro hm
        rcases List.mem_cons.1 hm with rfl | hm
        · exact asgOps_head hj
        · exact asgOps_tail (ih hm)
    exact key _ (by simpa using Array.mem_of_getElem? ho)
theorem noInl_ok : InlOK C noInl := fun Y y g args H nx k E fp w cargs hk => by simp [noInl] at hk
theorem Inv.op (S : Setup C K ops k y F H nx N r hsF chsF rdsF) (I : Inv C K ops F r N E0 H0 fp0 w0 nx0 a0 Λ E fp w a p) {i : Nat} {o : Oper} (ho : ops[i]? = some o) (hun : Λ.getD i false = false)
    (hed : ∀ e ∈ o.after, bindsAny e.ground = true → Λ.getD e.on false = true) {Q : Exit → Act → World → Prop} {Kk : Act → World → Prop}
    (hK : ∀ E' fp' w' a' p', Inv C K ops F r N E0 H0 fp0 w0 nx0 a0 (Λ.setIfInBounds i true) E' fp' w' a' p' → Kk a' w') : wpOp C.P ops Q i Kk a w := by
  have hi := op_lt ho
  have hdone := anc_done S.back I.closed (i + 1) i o (by omega) ho hed
  have hG : GuardRel ops o C.RT E (r i).F a := fun g want d hg hd => I.sees S ho hun hed (eyes_guard hg hd)
  have hrf : RF C.RT E (only o.op.operands (r i).F) a := only_rf fun t ht => I.sees S ho hun hed (eyes_opd ht)
  have hco : ∀ x ∈ o.op.operands, evOpd (r i).F x = evOpd (only o.op.operands (r i).F) x := fun x hx => (only_opd hx).symm
  -- the time of the others stays
  have htime : ¬ (isC K o = true ∧ (r i).wd = true) → ∀ c oc, ops[c]? = some oc → isC K oc = true → (r c).wd = true → ((Λ.setIfInBounds i true).getD c false = true ↔ (r c).τ < (r p).τ) := by
    intro hn c oc hc hic hwd
    have hne : i ≠ c := fun he => by subst he; rw [ho] at hc; obtain rfl := Option.some.inj hc; exact hn ⟨hic, hwd⟩
    rw [getD_set_ne false hne]
    exact I.time c oc hc hic hwd
  unfold wpOp
  simp only [ho]
  rcases S.tr.step i o (Nat.zero_le _) ho with ⟨h1, h2, h3, _⟩ | ⟨h1, h2, _, h3⟩
  · rw [if_neg (by rw [h2 _ _ _ hG]; simp)]
    exact hK E fp w _ p (I.next S ho hed I.pn I.sim (Step.refl I.step.fresh) (by rw [h3]; exact R.und) (htime fun h => by rw [h1] at h; simp at h))
  · rw [if_pos (h2 _ _ _ hG)]
    left
    rcases h3 with ⟨hc, hev, hτ⟩ | ⟨hc, hl, hev, _⟩ | ⟨hc, hl, hev, hrest⟩
    · -- it turns memory: it is its turn
      have hτp : (r i).τ = (r p).τ := by
        have hge : (r p).τ ≤ (r i).τ := by
          rcases Nat.lt_or_ge (r i).τ (r p).τ with h | h
          · have := (I.time i o ho hc h1).2 h
            rw [hun] at this; simp at this
          · exact h
        rcases Nat.lt_or_ge (r p).τ (r i).τ with h | h
        · exfalso
          have hlen : (r p).τ < chsF.length := by
            have := S.tr.ch i o (Nat.zero_le _) ho hc h1
            have hlt : (r i).τ < chsF.length := by
              rcases Nat.lt_or_ge (r i).τ chsF.length with h' | h'
              · exact h'
              · rw [List.getElem?_eq_none h'] at this; simp at this
            omega
          obtain ⟨_, g2, oc, g3, g4, g5⟩ := S.tr.chI (r p).τ chsF[(r p).τ] (by simp) (by simp [hlen])
          have hci : chsF[(r p).τ] < i := by
            rcases Nat.lt_or_ge chsF[(r p).τ] i with h' | h'
            · exact h'
            · have := S.τ_le h' (Nat.le_of_lt (op_lt g3))
              omega
          have hanc := S.chained g3 ho hci g4 hc
          have := (I.time _ oc g3 g4 g5).1 (hdone _ hanc)
          omega
        · omega
      obtain ⟨s1, s2⟩ := S.same_time (i := i) (j := p) (by omega) I.pn hτp
      rw [evC_congr hco, s1, s2] at hev
      refine evC_sound S.hC noInl_ok I.sim I.step.fresh hrf hev fun v u H' nx' E' fp' w' g1 g2 g3 g4 => ?_
      simp only [Option.some.injEq, Prod.mk.injEq] at g1
      obtain ⟨rfl, rfl, rfl⟩ := g1
      refine hK E' fp' w' _ (i + 1) (I.next S ho hed (by omega) g3 g4 g2 fun c oc hcc hic hwd => ?_)
      rw [hτ]
      by_cases hic' : i = c
      · subst hic'
        rw [getD_set_self (by rw [I.size]; exact hi)]
        simp
      · rw [getD_set_ne false hic', I.time c oc hcc hic hwd, ← hτp]
        constructor
        · intro h; omega
        · intro h
          rcases Nat.lt_or_ge (r c).τ (r i).τ with h' | h'
          · exact h'
          · exfalso
            have he : (r c).τ = (r i).τ := by omega
            have q1 := S.tr.ch c oc (Nat.zero_le _) hcc hic hwd
            have q2 := S.tr.ch i o (Nat.zero_le _) ho hc h1
            rw [he, q2] at q1
            exact hic' (Option.some.inj q1)
    · rw [evLit_congr hco] at hev
      obtain ⟨v, E', u, w', g1, g2, g3, g4, g5⟩ := lit_sound I.sim I.step.fresh hrf hev
      simp only [Option.some.injEq] at g1
      unfold Oper.wp
      rw [g2]
      exact hK E' fp w' _ p (I.next S ho hed I.pn g4 g5 (by rw [← g1]; exact g3) (htime fun h => by rw [hc] at h; simp at h))
    · have hevp : evR C.P C.RT (r p).H (r i).F o.op some = some (r i).v := by
        cases hlk : looks (r i).F o with
        | false => rw [evR_blind (H' := (r i).H) hlk]; exact hev
        | true =>
          by_cases hτ : (r p).τ = (r i).τ
          · rw [(S.same_time I.pn (by omega) hτ).1]; exact hev
          · have hrd := S.tr.rd i o (Nat.zero_le _) ho hc hl hlk h1
            refine (checkRds_get S.tr.fin).2 _ hrd (r p).τ (r p).H (S.tr.heap p (Nat.zero_le _) (by have := I.pn; omega)) (fits_of fun t c hct => ?_) hτ
            obtain ⟨_, g2, oc, g3, g4, g5⟩ := S.tr.chI t c (by simp) hct
            have htc := I.time c oc g3 g4 g5
            rw [g2] at htc
            constructor
            · intro ht
              cases hb : bit (nthD 0 (ancsOf [] ops.toList) c) i with
              | false => rfl
              | true =>
                have := anc_done S.back I.closed (c + 1) c oc (by omega) g3 (I.closed c oc g3 (htc.2 ht)) i hb
                rw [hun] at this; simp at this
            · intro ht
              cases hb : bit (nthD 0 (ancsOf [] ops.toList) i) c with
              | false => rfl
              | true =>
                have := htc.1 (hdone c hb)
                omega
      rw [evR_congr hco] at hevp
      obtain ⟨v, u, g1, g2, g3⟩ := evR_sound hrf I.sim hevp
      simp only [Option.some.injEq] at g1
      unfold Oper.wp
      rw [g2]
      exact hK E fp w _ p (I.next S ho hed I.pn I.sim (Step.refl I.step.fresh) (by rw [← g1]; exact g3) (htime fun h => by rw [hc] at h; simp at h))
theorem least_ready (hback : backEdges 0 ops.toList = true) (hsz : Λ.size = ops.size) (hr : Region.ready .any ops Λ = []) : ∀ (n j : Nat), j < n → j < ops.size → Λ.getD j false = true
  | 0, j, h, _ => by omega
  | n + 1, j, h, hj => by
    cases hl : Λ.getD j false with
    | true => rfl
    | false =>
      exfalso
      have hoj : ops[j]? = some ops[j] := by simp [hj]
      have : j ∈ Region.ready .any ops Λ := by
        rw [mem_ready]
        refine ⟨?_, _, hoj, fun e he hb => ?_⟩
        · have hlt : j < Λ.size := by omega
          simp [hlt] at hl ⊢
          exact hl
        · rw [binds_eq] at hb
          have := backEdges_get hback (by rw [Array.getElem?_toList]; exact hoj : ops.toList[j]? = some _) he hb
          exact least_ready hback hsz hr n e.on (by omega) (by omega)
      rw [hr] at this
      simp at this
theorem any_ok (S : Setup C K ops k y F H nx N r hsF chsF rdsF) {Q : Exit → Act → World → Prop}
    (hfin : ∀ Λ E fp w a p, Inv C K ops F r N E0 H0 fp0 w0 nx0 a0 Λ E fp w a p → (∀ j, j < ops.size → Λ.getD j false = true) → Q .normal a w) :
    ∀ (fuel : Nat) (Λ : Array Bool) (E : Env) (fp : Fp) (w : World) (a : Act) (p : Nat), Λ.toList.count false ≤ fuel → Inv C K ops F r N E0 H0 fp0 w0 nx0 a0 Λ E fp w a p → wpAny C.P .any ops Q fuel Λ a w
  | 0, Λ, E, fp, w, a, p, hf, I => by
    have hall : ∀ j, j < ops.size → Λ.getD j false = true := by
      intro j hj
      have hlt : j < Λ.size := by rw [I.size]; exact hj
      cases hl : Λ.getD j false with
      | true => rfl
      | false =>
        have hm : false ∈ Λ.toList := by
          simp [hlt] at hl
          rw [← hl]
          simp
        have := List.count_pos_iff.2 hm
        omega
    refine ⟨?_, hfin Λ E fp w a p I hall⟩
    rw [List.eq_nil_iff_forall_not_mem]
    intro j hj
    rw [mem_ready] at hj
    obtain ⟨h1, o, ho, _⟩ := hj
    have := hall j (op_lt ho)
    have hlt : j < Λ.size := by rw [I.size]; exact op_lt ho
    simp [hlt] at h1 this
    rw [this] at h1
    simp at h1
  | fuel + 1, Λ, E, fp, w, a, p, hf, I => by
    refine ⟨fun hr => hfin Λ E fp w a p I fun j hj => least_ready S.back I.size hr (j + 1) j (by omega) hj, fun i hi => ?_⟩
    rw [mem_ready] at hi
    obtain ⟨h1, o, ho, hed⟩ := hi
    have hlt : i < Λ.size := by rw [I.size]; exact op_lt ho
    have hun : Λ.getD i false = false := by simp [hlt] at h1 ⊢; exact h1
    refine I.op S ho hun (fun e he hb => hed e he (by rw [binds_eq]; exact hb)) fun E' fp' w' a' p' I' => any_ok S hfin fuel _ E' fp' w' a' p' ?_ I'
    have hli : Λ.toList[i]'(by simpa using hlt) = false := by simp [hlt] at hun; simpa using hun
    rw [Array.toList_setIfInBounds, List.count_set (by simpa using hlt)]
    rw [hli]
    have e1 : (false == false) = true := rfl
    have e2 : ¬ (true == false) = true := by decide
    rw [if_pos e1, if_neg e2]
    omega
theorem evDrawC_sound (hC : CfgOK C) {id n : Nat} {Q : Exit → Act → World → Prop}
    (hk : gate (backEdges 0 ops.toList && (pairsOk ops.toList (ancsOf [] ops.toList) [] ops.toList && chainOk K (ancsOf [] ops.toList) [] ops.toList)) (evOpsA C K noInl ops.toList (ancsOf [] ops.toList) 0 ops.toList F H nx [H] [] [] k) = some y) (st : St C.RT E H fp w F a nx n) (hd : dstOps n ops.toList = true)
    (hQ : ∀ F' H' nx' E' fp' a' w', k F' H' nx' = some y → St C.RT E' H' fp' w' F' a' nx' n → Trip C E H fp w nx E' H' fp' w' nx' → Same (asgOps ops.toList) a a' → Q .normal a' w') :
    (Code.region id ops true).wp C.P Q a w := by
  rw [gate_some] at hk
  obtain ⟨hg, hk⟩ := hk
  simp only [Bool.and_eq_true] at hg
  obtain ⟨hb, hp, hch⟩ := hg
  obtain ⟨r, hsF, chsF, rdsF, tr⟩ := evOpsA_trace hC ops.toList 0 F H nx [H] [] [] hk rfl rfl (fun j => by simp)
  have S : Setup C K ops k y F H nx n r hsF chsF rdsF := ⟨hC, by simpa using tr, hb, hp, hch, hd⟩
  obtain ⟨s1, s2, s3, s4⟩ := S.tr.start
  have hdrew : Frm w (fun _ => False) { w with drawn := w.drawn + 1 } := Frm.drew w _
  have hsim : Sim C.RT E H fp { w with drawn := w.drawn + 1 } := st.sim.frm hdrew (fun _ _ h => h) (fun _ _ _ h => h)
  have hstep : Step E H fp w nx E H fp { w with drawn := w.drawn + 1 } nx := ⟨.refl E, Frm.drew w _, fun _ h _ => h, Nat.le_refl _, st.fresh, .refl _ _ _ _⟩
  refine wp_region_any hC.wide (any_ok (E0 := E) (H0 := H) (fp0 := fp) (w0 := w) (nx0 := nx) (a0 := a) S (fun Λ E' fp' w' a' p I hall => ?_) ops.size _ E fp _ a 0 (by simp) ?_)
  · have hfin := (checkRds_get S.tr.fin).1
    rw [Nat.zero_add] at hfin
    have hτ : (r p).τ = (r ops.size).τ := by
      have hle := S.τ_le I.pn (Nat.le_refl _)
      rcases Nat.lt_or_ge (r p).τ (r ops.size).τ with h | h
      · exfalso
        have hl := S.tr.last
        rw [Nat.zero_add] at hl
        obtain ⟨_, g2, oc, g3, g4, g5⟩ := S.tr.chI (r p).τ (chsF[(r p).τ]'(by omega)) (by simp) (by rw [List.getElem?_eq_getElem])
        have := (I.time _ oc g3 g4 g5).1 (hall _ (op_lt g3))
        omega
      · omega
    obtain ⟨e1, e2⟩ := S.same_time I.pn (Nat.le_refl _) hτ
    have hsim' := I.sim
    have hstep' := I.step
    rw [e1] at hsim'
    rw [e1, e2] at hstep'
    refine hQ _ _ _ E' fp' a' w' hfin ⟨hsim', hstep'.fresh, fun t => ?_, I.asz, I.df⟩ hstep'.trip I.same
    rcases S.frame ops.size t (Nat.le_refl _) with ⟨m, o, h1, h2, h3, h4⟩ | ⟨h1, h2⟩
    · rw [h4]
      exact I.got m o t h2 h3 (hall m h1)
    · rw [h2]
      exact I.not t fun m o hm hd => absurd hd (h1 m o (op_lt hm) hm)
  · refine ⟨by simp, fun j o hj hl => ?_, Nat.zero_le _, fun c o hc hic hwd => ?_, by rw [s2]; exact hsim, by rw [s2, s3]; exact hstep, fun m o d hm hd hl => ?_, fun d _ => st.rf d, st.size, st.df, .refl _ _⟩
    · have := op_lt hj
      simp [this] at hl
    · have := op_lt hc
      rw [s4]
      simp [this]
    · have := op_lt hm
      simp [this] at hl
end Go.Eng
