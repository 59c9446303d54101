/-
  The engine, part four: memory that is made and written.
  Conditions: none; nothing is claimed of the program here.
-/
import Derived.Test.YtghbobmkkbdhpaaEngRead
set_option linter.unusedSimpArgs false
set_option linter.unusedVariables false
namespace Go.Eng
variable {RT : RoTab} {E : Env} {F : Fr} {a : Act} {H : Heap} {fp : Fp} {w : World} {P : Program} {Y : Type} {y : Y}

theorem BlkOK.mono {E' : Env} (h : E.Le E') {b : Blk} {I : Info} {f : Nat × Nat → Prop} (ok : BlkOK RT E b I f w) : BlkOK RT E' b I f w where
  own := ok.own
  cap := ok.cap
  live := ok.live
  kind := by
    have hk := ok.kind
    cases b with
    | cells wd cs => exact ⟨hk.1, hk.2.1, hk.2.2.1, fun j x hj => let ⟨v, hv, hr⟩ := hk.2.2.2 j x hj; ⟨v, hv, hr.mono h⟩⟩
    | ints g k xs => exact hk
    | recs g T xss => exact ⟨hk.1, hk.2.1, hk.2.2.1, fun i j x hi hj => let ⟨v, hv, hr⟩ := hk.2.2.2 i j x hi hj; ⟨v, hv, hr.mono h⟩⟩
    | hole kd xss hi b => exact ⟨hk.1, hk.2.1, fun i hi => let ⟨v, hv, hr⟩ := hk.2.2 i hi; ⟨v, hv, hr.mono h⟩⟩

/-- A block that is not written stays. -/
theorem BlkOK.frm {w' : World} {O : Nat × Nat → Prop} (h : Frm w O w') {b : Blk} {I : Info} {f : Nat × Nat → Prop} (hO : ∀ x, f x → ¬ O x)
    (ok : BlkOK RT E b I f w) : BlkOK RT E b I f w' where
  own := ok.own
  cap := ok.cap
  live := fun x hx => by
    obtain ⟨v, hv, hf⟩ := ok.live x hx
    exact ⟨v, h.cell hv (hO x hx), by rw [h.frozen (World.block_lt_of_cell? _ _ hv)]; exact hf⟩
  kind := by
    have hk := ok.kind
    cases b with
    | cells wd cs =>
      refine ⟨hk.1, hk.2.1, hk.2.2.1, fun j x hj => ?_⟩
      obtain ⟨v, hv, hr⟩ := hk.2.2.2 j x hj
      refine ⟨v, h.cell hv (hO _ ((ok.own _).2 ⟨rfl, by simp, ?_⟩)), hr⟩
      have hlt : j < cs.length := by
        rcases Nat.lt_or_ge j cs.length with h' | h'
        · exact h'
        · rw [List.getElem?_eq_none h'] at hj; simp at hj
      simp only [hk.2.2.1, hk.1, Bool.false_eq_true, if_false]
      have := hk.2.1
      omega
    | ints g k xs =>
      refine ⟨hk.1, hk.2.1, hk.2.2.1, fun j hj => h.cell (hk.2.2.2 j hj) (hO _ ((ok.own _).2 ⟨rfl, by simp, ?_⟩))⟩
      have h1 := hk.1
      have h2 := hk.2.1
      have h3 := ok.cap
      simp only [h1]
      split <;> omega
    | recs g T xss =>
      refine ⟨hk.1, hk.2.1, hk.2.2.1, fun i j x hi hj => ?_⟩
      obtain ⟨v, hv, hr⟩ := hk.2.2.2 i j x hi hj
      refine ⟨v, h.cell hv (hO _ ((ok.own _).2 ⟨rfl, by simp, ?_⟩)), hr⟩
      have hlt : j < I.w := by
        rw [hk.1, ← recA_len T (xss.getD i [])]
        rcases Nat.lt_or_ge j (recA T (xss.getD i [])).length with h' | h'
        · exact h'
        · rw [List.getElem?_eq_none h'] at hj; simp at hj
      have hn := ok.cap
      have hn2 := hk.2.1
      have := cell_in (n := if I.grow = true then I.cap else I.n) (show i < _ by split <;> omega) hlt
      simp only
      omega
    | hole kd xss hi b =>
      refine ⟨hk.1, hk.2.1, fun i hi' => ?_⟩
      obtain ⟨v, hv, hr⟩ := hk.2.2 i hi'
      refine ⟨v, h.cell hv (hO _ ((ok.own _).2 ⟨rfl, by simp, ?_⟩)), hr⟩
      have h1 := hk.1
      have h2 := hk.2.1
      have h3 := ok.cap
      simp only [h1]
      split <;> omega

theorem Sim.cell_lt (hs : Sim RT E H fp w) {id : Nat} {b : Blk} {x : Nat × Nat} (hb : H id = some b) (hx : fp id x) : x.1 < w.heap.size := by
  obtain ⟨I, _, ok⟩ := hs.blk _ _ hb
  obtain ⟨v, hv, _⟩ := ok.live x hx
  exact World.block_lt_of_cell? _ _ hv

theorem Sim.frm {w' : World} {O : Nat × Nat → Prop} (hs : Sim RT E H fp w) (h : Frm w O w') (hO : ∀ x, OwnAll H fp x → ¬ O x)
    (hM : ∀ a v, E.M a = some v → ¬ O (a.block, a.off)) : Sim RT E H fp w' where
  blk := fun id b hb => let ⟨I, hI, ok⟩ := hs.blk id b hb; ⟨I, hI, ok.frm h fun x hx => hO x ⟨id, b, hb, hx⟩⟩
  disj := hs.disj
  ro := fun a v ha => let ⟨h1, h2, h3⟩ := hs.ro a v ha; ⟨h1, h.cell h2 (hM a v ha), h3⟩

/-! ### A new block -/
theorem Frm.alloc (w : World) (o : Obj) (O : Nat × Nat → Prop) : Frm w O (w.alloc o) where
  os := rfl
  tape := rfl
  output := rfl
  size := by simp
  cells := fun k c t fz h => ⟨c, by rw [RowKit.Below.heap_alloc _ _ _ (heap_lt h)]; exact h, rfl, fun _ _ => rfl⟩
  other := fun k o' h _ => by rw [RowKit.Below.heap_alloc _ _ _ (heap_lt h)]; exact h

theorem Frm.drew (w : World) (O : Nat × Nat → Prop) : Frm w O w.drew :=
  ⟨rfl, rfl, rfl, Nat.le_refl _, fun _ c _ _ h => ⟨c, h, rfl, fun _ _ => rfl⟩, fun _ _ h _ => h⟩

def putI (E : Env) (id : Nat) (I : Info) : Env := { E with info := fun j => if j = id then some I else E.info j }
def putFp (fp : Fp) (id : Nat) (f : Nat × Nat → Prop) : Fp := fun j => if j = id then f else fp j

theorem putI_le {id : Nat} {I : Info} (h : E.info id = none) : E.Le (putI E id I) := by
  refine ⟨fun j J hj => ?_, fun _ _ h => h⟩
  by_cases hji : j = id
  · subst hji; rw [h] at hj; simp at hj
  · simp [putI, hji, hj]

theorem fresh_heap {nx : Nat} (hs : Sim RT E H fp w) (hf : Fresh E nx) {id : Nat} (h : nx ≤ id) : H id = none := by
  cases hb : H id with
  | none => rfl
  | some b => obtain ⟨I, hI, _⟩ := hs.blk _ _ hb; rw [hf id h] at hI; simp at hI

theorem Sim.sub {H' : Heap} (hs : Sim RT E H fp w) (h : ∀ id b, H' id = some b → H id = some b) : Sim RT E H' fp w where
  blk := fun id b hb => hs.blk id b (h id b hb)
  disj := fun i j b c x hb hc => hs.disj i j b c x (h i b hb) (h j c hc)
  ro := fun a v ha => let ⟨h1, h2, h3⟩ := hs.ro a v ha; ⟨h1, h2, fun i b hb => h3 i b (h i b hb)⟩

theorem kill_sub {id : Nat} : ∀ id' b, putH H id none id' = some b → H id' = some b := by
  intro id' b h
  rw [putH_eq] at h
  split at h
  · simp at h
  · exact h

/-- A block is laid beside the others: in memory that none of them owns. -/
theorem Sim.add {nx : Nat} {b : Blk} {I : Info} {w' : World} {O : Nat × Nat → Prop} (hs : Sim RT E H fp w) (hf0 : E.info nx = none) (h : Frm w O w')
    (hO : ∀ x, OwnAll H fp x → ¬ O x) (hM : ∀ a v, E.M a = some v → ¬ O (a.block, a.off)) (ok : BlkOK RT (putI E nx I) b I (Own I) w')
    (hd : ∀ x, Own I x → (∀ id b, H id = some b → ¬ fp id x) ∧ ∀ a v, E.M a = some v → (a.block, a.off) ≠ x) :
    Sim RT (putI E nx I) (putH H nx (some b)) (putFp fp nx (Own I)) w' := by
  have hle : E.Le (putI E nx I) := putI_le hf0
  have h2 := hs.frm h hO hM
  refine ⟨fun id b' hb => ?_, fun i j b1 b2 x h1 h3 hij hx hy => ?_, fun a v ha => ?_⟩
  · rw [putH_eq] at hb
    split at hb
    · rename_i hid
      subst hid
      simp only [Option.some.injEq] at hb
      subst hb
      exact ⟨I, by simp [putI], by simpa [putFp] using ok⟩
    · rename_i hid
      obtain ⟨J, hJ, ok'⟩ := h2.blk id b' hb
      exact ⟨J, hle.info _ _ hJ, by simpa [putFp, hid] using ok'.mono hle⟩
  · rw [putH_eq] at h1 h3
    simp only [putFp] at hx hy
    split at h1
    · rename_i hi
      subst hi
      rw [if_neg (Ne.symm hij)] at h3
      rw [if_pos rfl] at hx
      rw [if_neg (Ne.symm hij)] at hy
      exact (hd x hx).1 j b2 h3 hy
    · rename_i hi
      rw [if_neg hi] at hx
      split at h3
      · rename_i hj
        subst hj
        rw [if_pos rfl] at hy
        exact (hd x hy).1 i b1 h1 hx
      · rename_i hj
        rw [if_neg hj] at hy
        exact hs.disj i j b1 b2 x h1 h3 hij hx hy
  · obtain ⟨h1, h3, h4⟩ := h2.ro a v ha
    refine ⟨h1, h3, fun i b' hb hx => ?_⟩
    rw [putH_eq] at hb
    simp only [putFp] at hx
    split at hb
    · rename_i hi
      rw [if_pos hi] at hx
      exact (hd _ hx).2 a v ha rfl
    · rename_i hi
      rw [if_neg hi] at hx
      exact h4 i b' hb hx

/-- The step to it. -/
theorem Step.add {nx : Nat} {b : Blk} {I : Info} {w' : World} {H0 : Heap} (hf : Fresh E nx) (hsub : ∀ id b, H id = some b → H0 id = some b)
    (h : Frm w (OwnAll H0 fp) w') (ho : ∀ x, Own I x → x.1 < w.heap.size → OwnAll H0 fp x) :
    Step E H0 fp w nx (putI E nx I) (putH H nx (some b)) (putFp fp nx (Own I)) w' (nx + 1) where
  le := putI_le (hf nx (Nat.le_refl _))
  frm := h
  own := fun x hx hlt => by
    obtain ⟨id, b', hb, hfx⟩ := hx
    rw [putH_eq] at hb
    simp only [putFp] at hfx
    split at hb
    · rename_i hi
      rw [if_pos hi] at hfx
      exact ho x hfx hlt
    · rename_i hi
      rw [if_neg hi] at hfx
      exact ⟨id, b', hsub _ _ hb, hfx⟩
  nx := by omega
  fresh := fun id hid => by
    simp only [putI]
    rw [if_neg (by omega)]
    exact hf id (by omega)
  ext := fun _ _ h => Or.inl h

theorem cells_alloc (w : World) (c : Array Value) (t : TypeId) (j : Nat) : (w.alloc (.cells c t)).cell? ⟨w.heap.size, j, none⟩ = c[j]? := by simp
theorem frozen_alloc (w : World) (c : Array Value) (t : TypeId) (j : Nat) : (w.alloc (.cells c t)).frozen? ⟨w.heap.size, j, none⟩ = false := by simp

/-- New memory: nobody else's. -/
theorem new_apart {x : Nat × Nat} (hs : Sim RT E H fp w) (hx : x.1 = w.heap.size) :
    (∀ id b, H id = some b → ¬ fp id x) ∧ ∀ a v, E.M a = some v → (a.block, a.off) ≠ x := by
  refine ⟨fun id b hb hf => ?_, fun a v ha he => ?_⟩
  · have := hs.cell_lt hb hf; omega
  · have := World.block_lt_of_cell? _ _ (hs.ro a v ha).2.1
    have : a.block = x.1 := by rw [← he]
    omega

/-- A block of elements is made. -/
theorem newCells {nx wd n : Nat} {cs : List Atom} {vs : Array Value} {e : TypeId} (hs : Sim RT E H fp w) (hf : Fresh E nx) (hc : RCs RT E cs vs) (hn : n * wd = cs.length) :
    Sim RT (putI E nx ⟨w.heap.size, 0, n, n, wd, false⟩) (putH H nx (some (.cells wd cs))) (putFp fp nx (Own ⟨w.heap.size, 0, n, n, wd, false⟩)) (w.alloc (.cells vs e)) ∧
    Step E H fp w nx (putI E nx ⟨w.heap.size, 0, n, n, wd, false⟩) (putH H nx (some (.cells wd cs))) (putFp fp nx (Own ⟨w.heap.size, 0, n, n, wd, false⟩)) (w.alloc (.cells vs e)) (nx + 1) := by
  have hle : E.Le (putI E nx ⟨w.heap.size, 0, n, n, wd, false⟩) := putI_le (hf nx (Nat.le_refl _))
  have hsz := hc.1
  refine ⟨Sim.add hs (hf nx (Nat.le_refl _)) (Frm.alloc w _ (fun _ => False)) (fun _ _ h => h) (fun _ _ _ h => h) ⟨fun _ => Iff.rfl, Nat.le_refl _, fun x hx => ?_, rfl, hn, rfl, fun j x hj => ?_⟩
    (fun x hx => new_apart hs hx.1), Step.add hf (fun _ _ h => h) (Frm.alloc w _ _) (fun x hx hlt => ?_)⟩
  · obtain ⟨h1, h2, h3⟩ := hx
    simp only [Bool.false_eq_true, if_false] at h3
    rw [h1, cells_alloc, frozen_alloc]
    exact ⟨vs[x.2]'(by omega), by simp, rfl⟩
  · have hlt : j < cs.length := by
      rcases Nat.lt_or_ge j cs.length with h' | h'
      · exact h'
      · rw [List.getElem?_eq_none h'] at hj; simp at hj
    refine ⟨vs.getD j undef, ?_, (hc.2 j x hj).mono hle⟩
    rw [Nat.zero_add, cells_alloc]
    simp [Array.getD, show j < vs.size by omega]
  · have := hx.1
    simp only at this
    omega

/-- .. of whole numbers, with room behind. -/
theorem newInts {nx cap : Nat} {k : IntKind} {xs : List Int} {vs : Array Value} {e : TypeId} (hs : Sim RT E H fp w) (hf : Fresh E nx) (hcap : vs.size = cap) (hle' : xs.length ≤ cap)
    (hc : ∀ j, j < xs.length → vs[j]? = some (.int k (xs.getD j 0))) :
    Sim RT (putI E nx ⟨w.heap.size, 0, xs.length, cap, 1, true⟩) (putH H nx (some (.ints true k xs))) (putFp fp nx (Own ⟨w.heap.size, 0, xs.length, cap, 1, true⟩)) (w.alloc (.cells vs e)) ∧
    Step E H fp w nx (putI E nx ⟨w.heap.size, 0, xs.length, cap, 1, true⟩) (putH H nx (some (.ints true k xs))) (putFp fp nx (Own ⟨w.heap.size, 0, xs.length, cap, 1, true⟩)) (w.alloc (.cells vs e)) (nx + 1) := by
  refine ⟨Sim.add hs (hf nx (Nat.le_refl _)) (Frm.alloc w _ (fun _ => False)) (fun _ _ h => h) (fun _ _ _ h => h) ⟨fun _ => Iff.rfl, hle', fun x hx => ?_, rfl, rfl, fun _ => rfl, fun j hj => ?_⟩
    (fun x hx => new_apart hs hx.1), Step.add hf (fun _ _ h => h) (Frm.alloc w _ _) (fun x hx hlt => ?_)⟩
  · obtain ⟨h1, h2, h3⟩ := hx
    simp only [if_true] at h3
    rw [h1, cells_alloc, frozen_alloc]
    exact ⟨vs[x.2]'(by omega), by simp, rfl⟩
  · rw [Nat.zero_add, cells_alloc]
    exact hc j hj
  · have := hx.1
    simp only at this
    omega

/-- .. of slices, all nil. -/
theorem newRows {nx n cap : Nat} {k : IntKind} {vs : Array Value} {e : TypeId} (hs : Sim RT E H fp w) (hf : Fresh E nx) (hcap : vs.size = cap) (hle' : n ≤ cap)
    (hc : ∀ j, j < n → vs[j]? = some (.slice none 0 0)) :
    Sim RT (putI E nx ⟨w.heap.size, 0, n, cap, 1, true⟩) (putH H nx (some (.recs false ⟨[], some k⟩ (List.replicate n [])))) (putFp fp nx (Own ⟨w.heap.size, 0, n, cap, 1, true⟩)) (w.alloc (.cells vs e)) ∧
    Step E H fp w nx (putI E nx ⟨w.heap.size, 0, n, cap, 1, true⟩) (putH H nx (some (.recs false ⟨[], some k⟩ (List.replicate n [])))) (putFp fp nx (Own ⟨w.heap.size, 0, n, cap, 1, true⟩)) (w.alloc (.cells vs e)) (nx + 1) := by
  refine ⟨Sim.add hs (hf nx (Nat.le_refl _)) (Frm.alloc w _ (fun _ => False)) (fun _ _ h => h) (fun _ _ _ h => h) ⟨fun _ => Iff.rfl, hle', fun x hx => ?_, rfl, by simp, fun h => by simp at h, fun i j x hi hj => ?_⟩
    (fun x hx => new_apart hs hx.1), Step.add hf (fun _ _ h => h) (Frm.alloc w _ _) (fun x hx hlt => ?_)⟩
  · obtain ⟨h1, h2, h3⟩ := hx
    simp only [if_true] at h3
    rw [h1, cells_alloc, frozen_alloc]
    exact ⟨vs[x.2]'(by omega), by simp, rfl⟩
  · simp only [List.length_replicate] at hi
    have hr : (List.replicate n ([] : List Int)).getD i [] = [] := by simp [List.getD_eq_getElem?_getD, hi]
    rw [hr] at hj
    cases j with
    | zero =>
      simp only [recA, recAs, List.getElem?_cons_zero, Option.some.injEq] at hj
      subst hj
      refine ⟨_, ?_, R.roi (xs := []) (cap := 0) (base := none) (Nat.le_refl _) (fun i hi => by simp at hi)⟩
      simp only [Nat.mul_one, Nat.zero_add, Nat.add_zero]
      rw [cells_alloc, hc i hi]
      rfl
    | succ j => simp [recA, recAs] at hj
  · have := hx.1
    simp only at this
    omega

/-! ### Stores -/
theorem knownA_cell {x : Atom} {v : Value} (h : R RT E x v) (hk : knownA x = true) : v.oneCell' = true := by
  cases h <;> first | rfl | simp [knownA] at hk

theorem knownAs_get : ∀ {l : List Atom} {j : Nat} {x : Atom}, knownAs l = true → l[j]? = some x → knownA x = true
  | [], j, x, _, h => by simp at h
  | a :: r, 0, x, h, hj => by simp [knownAs] at h; simp at hj; subst hj; exact h.1
  | a :: r, j + 1, x, h, hj => by simp [knownAs] at h; simp at hj; exact knownAs_get h.2 hj

theorem solid_cells {x : AV} (h : solid x = true) : knownAs (cellsA x) = true := by
  cases x with
  | «at» a => simpa [cellsA, knownAs, solid] using h
  | agg cs => exact h
  | tup ps => simp [solid] at h

theorem Frm.setCell {b o : Nat} {u v : Value} (h : w.cell? ⟨b, o, none⟩ = some u) : Frm w (fun x => x = (b, o)) (w.setCell ⟨b, o, none⟩ v) where
  os := rfl
  tape := rfl
  output := rfl
  size := by simp
  cells := fun k c t fz hc => by
    by_cases hk : k = b
    · subst hk
      refine ⟨c.setIfInBounds o v, ?_, by simp, fun o' ho' => ?_⟩
      · simp [World.setCell, Array.getElem?_modify, hc]
      · have : o ≠ o' := fun he => ho' (by rw [he])
        rw [Array.getElem?_setIfInBounds_ne this]
    · exact ⟨c, by rw [RowKit.Below.heap_setCell _ _ _ _ hk]; exact hc, rfl, fun _ _ => rfl⟩
  other := fun k o' hc hn => by
    by_cases hk : k = b
    · subst hk
      unfold World.cell? at h
      rw [hc] at h
      cases o' with
      | cells c t fz => exact absurd rfl (hn c t fz)
      | _ => simp at h
    · rw [RowKit.Below.heap_setCell _ _ _ _ hk]; exact hc

theorem storeCells_run {b o : Nat} : ∀ (us : List Value) (i : Nat) (w : World), (∀ u ∈ us, u.oneCell' = true) →
    (∀ j, j < us.length → ∃ v, w.cell? ⟨b, o + (i + j), none⟩ = some v ∧ w.frozen? ⟨b, o + (i + j), none⟩ = false) →
    ∃ w', (storeCells ⟨b, o, none⟩ us i).run P w = .ok () w' ∧ Frm w (fun x => x.1 = b ∧ o + i ≤ x.2 ∧ x.2 < o + i + us.length) w' ∧
      ∀ j, j < us.length → w'.cell? ⟨b, o + (i + j), none⟩ = us[j]?
  | [], i, w, _, _ => ⟨w, rfl, .refl w _, fun j hj => by simp at hj⟩
  | u :: us, i, w, hu, hw => by
    obtain ⟨v, hv, hz⟩ := hw 0 (by simp)
    rw [Nat.add_zero] at hv hz
    have hst : (store (Addr.add ⟨b, o, none⟩ i) u).run P w = .ok () (w.setCell ⟨b, o + i, none⟩ u) := by
      rw [add_lit, run_store _ _ _ _ _ (hu u (by simp)), hv]
      simp [hz]
    have hF := Frm.setCell (v := u) hv
    obtain ⟨w', h1, h2, h3⟩ := storeCells_run us (i + 1) (w.setCell ⟨b, o + i, none⟩ u) (fun x hx => hu x (by simp [hx])) (fun j hj => by
      obtain ⟨v', hv', hz'⟩ := hw (j + 1) (by simp; omega)
      rw [show i + (j + 1) = i + 1 + j by omega] at hv' hz'
      obtain ⟨v'', hv''⟩ := hF.live hv'
      exact ⟨v'', hv'', by rw [World.frozen?_setCell]; exact hz'⟩)
    refine ⟨w', ?_, ?_, fun j hj => ?_⟩
    · simp only [storeCells, Sem.run_bind, hst, Result.andThen_ok, h1]
    · refine (hF.mono (O' := fun x => x.1 = b ∧ o + i ≤ x.2 ∧ x.2 < o + i + (u :: us).length) ?_).trans (h2.mono (O' := fun x => x.1 = b ∧ o + i ≤ x.2 ∧ x.2 < o + i + (u :: us).length) ?_) fun x hx _ => hx
      · rintro x rfl; simp
      · rintro x ⟨hx1, hx2, hx3⟩; simp; omega
    · cases j with
      | zero =>
        have hc : (w.setCell ⟨b, o + i, none⟩ u).cell? ⟨b, o + i, none⟩ = some u := World.cell?_setCell_same _ _ _ hv
        rw [Nat.add_zero]
        rw [h2.cell hc (by simp; omega)]
        rfl
      | succ j =>
        have := h3 j (by simpa using hj)
        rw [show i + (j + 1) = i + 1 + j by omega, this]
        rfl

theorem Step.same {nx : Nat} {H' : Heap} {w' : World} (hf : Fresh E nx) (h : Frm w (OwnAll H fp) w') (hs : ∀ id b, H' id = some b → ∃ b', H id = some b') :
    Step E H fp w nx E H' fp w' nx where
  le := .refl E
  frm := h
  own := fun x ⟨id, b, hb, hx⟩ _ => let ⟨b', hb'⟩ := hs id b hb; ⟨id, b', hb', hx⟩
  nx := Nat.le_refl _
  fresh := hf
  ext := .refl _ _ _ _

/-- A block's cells are written. -/
theorem Sim.write {id : Nat} {b b' : Blk} {I : Info} {w' : World} {O : Nat × Nat → Prop} (hs : Sim RT E H fp w) (hb : H id = some b) (hI : E.info id = some I)
    (h : Frm w O w') (hO : ∀ x, O x → fp id x) (ok : BlkOK RT E b' I (fp id) w') : Sim RT E (putH H id (some b')) fp w' := by
  refine ⟨fun id' c hc => ?_, fun i j b1 b2 x h1 h2 hij hx => ?_, fun a v ha => ?_⟩
  · rw [putH_eq] at hc
    split at hc
    · rename_i hid
      subst hid
      simp only [Option.some.injEq] at hc
      subst hc
      exact ⟨I, hI, ok⟩
    · rename_i hid
      obtain ⟨J, hJ, ok'⟩ := hs.blk id' c hc
      exact ⟨J, hJ, ok'.frm h fun x hx ho => hs.disj _ _ _ _ x hc hb hid hx (hO x ho)⟩
  · have g : ∀ i b1, putH H id (some b') i = some b1 → ∃ b2, H i = some b2 := by
      intro i b1 h1
      rw [putH_eq] at h1
      split at h1
      · rename_i hi; subst hi; exact ⟨b, hb⟩
      · exact ⟨b1, h1⟩
    obtain ⟨c1, h1⟩ := g i b1 h1
    obtain ⟨c2, h2⟩ := g j b2 h2
    exact hs.disj i j c1 c2 x h1 h2 hij hx
  · obtain ⟨h1, h2, h3⟩ := hs.ro a v ha
    refine ⟨h1, h.cell h2 fun ho => h3 id b hb (hO _ ho), fun i c hc => ?_⟩
    rw [putH_eq] at hc
    split at hc
    · rename_i hi; subst hi; exact h3 i b hb
    · exact h3 i c hc

theorem put_some {id : Nat} {b b' : Blk} (hb : H id = some b) : ∀ i c, putH H id (some b') i = some c → ∃ c', H i = some c' := by
  intro i c hc
  rw [putH_eq] at hc
  split at hc
  · rename_i hi; subst hi; exact ⟨b, hb⟩
  · exact ⟨c, hc⟩

theorem storeVar_run {t : TypeId} {u : Value} {b o : Nat} (ht : hasT P t = true) (hsz : u.cells.size = sizeT P t) (hu : ∀ x ∈ u.cells.toList, x.oneCell' = true)
    (hw : ∀ j, j < u.cells.size → ∃ v, w.cell? ⟨b, o + j, none⟩ = some v ∧ w.frozen? ⟨b, o + j, none⟩ = false) :
    ∃ w', (storeVar t ⟨b, o, none⟩ u).run P w = .ok () w' ∧ Frm w (fun x => x.1 = b ∧ o ≤ x.2 ∧ x.2 < o + u.cells.size) w' ∧
      ∀ j, j < u.cells.size → w'.cell? ⟨b, o + j, none⟩ = some (u.cells.getD j undef) := by
  obtain ⟨w', h1, h2, h3⟩ := storeCells_run (P := P) (b := b) (o := o) u.cells.toList 0 w hu (fun j hj => by
    rw [Nat.zero_add]; exact hw j (by simpa using hj))
  refine ⟨w', ?_, by simpa using h2, fun j hj => ?_⟩
  · simp only [storeVar, Sem.run_bind, run_size ht, Result.andThen_ok]
    rw [if_neg (by omega)]
    simpa using h1
  · have := h3 j (by simpa using hj)
    rw [Nat.zero_add] at this
    rw [this]
    simp [Array.getD, hj]

/-- A STORE. -/
theorem store_sound {nx : Nat} {t : TypeId} {x : Atom} {v : AV} {u ua : Value} {k : Heap → Option Y} (hs : Sim RT E H fp w) (hf : Fresh E nx) (hx : R RT E x ua) (hv : RV RT E v u)
    (hk : storeA P H t x v k = some y) :
    ∃ H' w', k H' = some y ∧ (Instr.storeAt t ua u).run P w = .ok () w' ∧ Sim RT E H' fp w' ∧ Step E H fp w nx E H' fp w' nx := by
  unfold storeA at hk
  split at hk
  · rename_i id off
    split at hk
    · rename_i wd cs hb
      rw [gate_some] at hk
      obtain ⟨hg, hk⟩ := hk
      simp only [Bool.and_eq_true] at hg
      obtain ⟨hsol, hh, hsz, hle⟩ := hg
      have hsz := Nat.eq_of_beq_eq_true hsz
      have hle := Nat.le_of_ble_eq_true hle
      rw [lenA_eq] at hsz hle
      rw [lenA_eq] at hle
      cases hx with
      | ptr hI =>
        rename_i I
        obtain ⟨J, hJ, ok⟩ := hs.blk _ _ hb
        rw [hI] at hJ
        obtain rfl := Option.some.inj hJ
        obtain ⟨hw, hn, hgr, hc⟩ := ok.kind
        obtain ⟨hcn, hcr⟩ := RV.cells hv hsol
        have hin : ∀ j, j < cs.length → fp id (I.cb, I.coff + j) := by
          intro j hj
          refine (ok.own _).2 ⟨rfl, by simp, ?_⟩
          simp only [hgr, Bool.false_eq_true, if_false, hw]
          omega
        obtain ⟨w', h1, h2, h3⟩ := storeVar_run (P := P) (w := w) (t := t) (u := u) (b := I.cb) (o := I.coff + off) hh (by omega) (fun z hz => by
          obtain ⟨j, hj⟩ := List.mem_iff_getElem?.1 hz
          have hlt : j < (cellsA v).length := by
            rcases Nat.lt_or_ge j u.cells.size with h' | h'
            · omega
            · rw [List.getElem?_eq_none (by simpa using h')] at hj; simp at hj
          have hr := hcr j _ (List.getElem?_eq_getElem hlt)
          have he : u.cells.getD j undef = z := by
            simp only [Array.getElem?_toList] at hj
            simp [Array.getD_eq_getD_getElem?, hj]
          rw [he] at hr
          exact knownA_cell hr (knownAs_get (solid_cells hsol) (List.getElem?_eq_getElem hlt))) (fun j hj => by
          have := ok.live _ (hin (off + j) (by omega))
          rw [← Nat.add_assoc] at this
          exact this)
        refine ⟨_, w', hk, by simp only [Instr.storeAt, Instr.sureAddr, Sem.run_bind, Sem.run_pure, Result.andThen_ok, h1], ?_, ?_⟩
        · refine hs.write hb hI h2 (fun x hx => ?_) ⟨ok.own, ok.cap, fun x hx => ?_, hw, by rw [putCells_len]; exact hn, hgr, fun j z hj => ?_⟩
          · obtain ⟨hx1, hx2, hx3⟩ := hx
            have := hin (x.2 - I.coff) (by omega)
            rw [show I.coff + (x.2 - I.coff) = x.2 by omega, ← hx1] at this
            exact this
          · obtain ⟨v', hv', hz⟩ := ok.live x hx
            obtain ⟨v'', hv''⟩ := h2.live hv'
            exact ⟨v'', hv'', by rw [h2.frozen (World.block_lt_of_cell? _ _ hv')]; exact hz⟩
          · rw [putCells_get _ _ _ _ (by omega)] at hj
            by_cases hin' : off ≤ j ∧ j < off + (cellsA v).length
            · rw [if_pos hin'] at hj
              have := h3 (j - off) (by omega)
              rw [show I.coff + off + (j - off) = I.coff + j by omega] at this
              exact ⟨_, this, hcr _ _ hj⟩
            · rw [if_neg hin'] at hj
              obtain ⟨v', hv', hr⟩ := hc j z hj
              exact ⟨v', h2.cell hv' (by simp; omega), hr⟩
        · refine Step.same hf (h2.mono fun x hx => ?_) (put_some hb)
          obtain ⟨hx1, hx2, hx3⟩ := hx
          have := hin (x.2 - I.coff) (by omega)
          rw [show I.coff + (x.2 - I.coff) = x.2 by omega, ← hx1] at this
          exact ⟨id, _, hb, this⟩
    · simp at hk
  · rename_i id i j
    split at hk
    · rename_i g kd xs kd' n hb
      rw [gate_some] at hk
      obtain ⟨hg, hk⟩ := hk
      simp only [Bool.and_eq_true, eqK_iff] at hg
      obtain ⟨rfl, hj0, hsz⟩ := hg
      obtain rfl := Nat.eq_of_beq_eq_true hj0
      have hsz := Nat.eq_of_beq_eq_true hsz
      have hh : hasT P t = true := by
        unfold hasT
        cases hi : P.info? t with
        | none => simp [sizeT, Program.cellsOf, hi] at hsz
        | some i => rfl
      have hv' := R.int_inv hv
      subst hv'
      cases hx with
      | eptr hI hi hj =>
        rename_i I
        obtain ⟨J, hJ, ok⟩ := hs.blk _ _ hb
        rw [hI] at hJ
        obtain rfl := Option.some.inj hJ
        obtain ⟨hw, hn, hgr, hc⟩ := ok.kind
        have hcap := ok.cap
        have hin : ∀ j, j < xs.length → fp id (I.cb, I.coff + j) := by
          intro j hj
          refine (ok.own _).2 ⟨rfl, by simp, ?_⟩
          simp only [hw]
          split <;> omega
        obtain ⟨w', h1, h2, h3⟩ := storeVar_run (P := P) (w := w) (t := t) (u := .int kd n) (b := I.cb) (o := I.coff + i) hh (by simp [Value.cells, hsz]) (fun z hz => by
          simp [Value.cells] at hz; subst hz; rfl) (fun j hj => by
          simp [Value.cells] at hj
          subst hj
          exact ok.live _ (hin i (by omega)))
        have ha : (⟨I.cb, I.coff + (i * I.w + 0), none⟩ : Addr) = ⟨I.cb, I.coff + i, none⟩ := by rw [hw]; simp
        rw [ha]
        refine ⟨_, w', hk, by simp only [Instr.storeAt, Instr.sureAddr, Sem.run_bind, Sem.run_pure, Result.andThen_ok, h1], ?_, ?_⟩
        · refine hs.write hb hI h2 (fun x hx => ?_) ⟨ok.own, ok.cap, fun x hx => ?_, hw, by simp [hn], hgr, fun j hj => ?_⟩
          · obtain ⟨hx1, hx2, hx3⟩ := hx
            simp [Value.cells] at hx3
            have := hin i (by omega)
            rw [show I.coff + i = x.2 by omega, ← hx1] at this
            exact this
          · obtain ⟨v', hv', hz⟩ := ok.live x hx
            obtain ⟨v'', hv''⟩ := h2.live hv'
            exact ⟨v'', hv'', by rw [h2.frozen (World.block_lt_of_cell? _ _ hv')]; exact hz⟩
          · rw [List.length_set] at hj
            by_cases hji : j = i
            · subst hji
              have := h3 0 (by simp [Value.cells])
              rw [Nat.add_zero] at this
              rw [this]
              simp [Value.cells, List.getD_eq_getElem?_getD, hj]
            · have hv' := hc j hj
              rw [h2.cell hv' (by simp [Value.cells]; omega)]
              simp [List.getD_eq_getElem?_getD, List.getElem?_set_ne (Ne.symm hji)]
        · refine Step.same hf (h2.mono fun x hx => ?_) (put_some hb)
          obtain ⟨hx1, hx2, hx3⟩ := hx
          simp [Value.cells] at hx3
          have := hin i (by omega)
          rw [show I.coff + i = x.2 by omega, ← hx1] at this
          exact ⟨id, _, hb, this⟩
    · rename_i g kd xss b hb
      split at hk
      · rename_i gb kd' ys hbb
        rw [gate_some] at hk
        obtain ⟨hg, hk⟩ := hk
        simp only [Bool.and_eq_true, eqK_iff] at hg
        obtain ⟨rfl, hj0, hsz, hh, hne⟩ := hg
        obtain rfl := Nat.eq_of_beq_eq_true hj0
        have hsz := Nat.eq_of_beq_eq_true hsz
        cases hx with
        | eptr hI hi hj =>
          rename_i I
          obtain ⟨J, hJ, ok⟩ := hs.blk _ _ hb
          rw [hI] at hJ
          obtain rfl := Option.some.inj hJ
          obtain ⟨hw, hn, hgr, hc⟩ := ok.kind
          have hw : I.w = 1 := hw
          have hcap := ok.cap
          have hin : ∀ j, j < xss.length → fp id (I.cb, I.coff + j) := by
            intro j hj
            refine (ok.own _).2 ⟨rfl, by simp, ?_⟩
            simp only [hw]
            split <;> omega
          have hv' : R RT E (.full b true) u := hv
          have hcells : u.cells = #[u] := by cases hv'; rfl
          have hone : u.oneCell' = true := by cases hv'; rfl
          obtain ⟨w', h1, h2, h3⟩ := storeVar_run (P := P) (w := w) (t := t) (u := u) (b := I.cb) (o := I.coff + i) hh (by simp [hcells, hsz]) (fun z hz => by
            simp [hcells] at hz; subst hz; exact hone) (fun j hj => by
            simp [hcells] at hj
            subst hj
            exact ok.live _ (hin i (by omega)))
          have ha : (⟨I.cb, I.coff + (i * I.w + 0), none⟩ : Addr) = ⟨I.cb, I.coff + i, none⟩ := by rw [hw]; simp
          rw [ha]
          refine ⟨_, w', hk, by simp only [Instr.storeAt, Instr.sureAddr, Sem.run_bind, Sem.run_pure, Result.andThen_ok, h1], ?_, ?_⟩
          · refine hs.write hb hI h2 (fun x hx => ?_) ⟨ok.own, ok.cap, fun x hx => ?_, hw, hn, fun j hj => ?_⟩
            · obtain ⟨hx1, hx2, hx3⟩ := hx
              simp [hcells] at hx3
              have := hin i (by omega)
              rw [show I.coff + i = x.2 by omega, ← hx1] at this
              exact this
            · obtain ⟨v', hv', hz⟩ := ok.live x hx
              obtain ⟨v'', hv''⟩ := h2.live hv'
              exact ⟨v'', hv'', by rw [h2.frozen (World.block_lt_of_cell? _ _ hv')]; exact hz⟩
            · by_cases hji : j = i
              · subst hji
                have := h3 0 (by simp [hcells])
                rw [Nat.add_zero] at this
                rw [if_pos rfl]
                refine ⟨_, this, ?_⟩
                simp only [hcells]
                exact hv'
              · obtain ⟨v', hv', hr⟩ := hc j 0 (.roi kd (xss.getD j [])) hj rfl
                rw [if_neg hji]
                refine ⟨v', ?_, hr⟩
                rw [hw, Nat.mul_one, Nat.add_zero] at hv'
                exact h2.cell hv' (by simp [hcells]; omega)
          · refine Step.same hf (h2.mono fun x hx => ?_) (put_some hb)
            obtain ⟨hx1, hx2, hx3⟩ := hx
            simp [hcells] at hx3
            have := hin i (by omega)
            rw [show I.coff + i = x.2 by omega, ← hx1] at this
            exact ⟨id, _, hb, this⟩
      · simp at hk
    · simp at hk
  · simp at hk

/-! ### The operations that make memory -/
theorem alloc_sound {nx : Nat} {e : TypeId} {z : List Atom} (hs : Sim RT E H fp w) (hf : Fresh E nx) (hz : zeroA P e = some z) :
    ∃ E' fp' u w', (Instr.alloc e true (.tuple #[])).run P w = .ok u w' ∧ R RT E' (.ptr nx 0) u ∧
      Sim RT E' (putH H nx (some (.cells (lenA z) z))) fp' w' ∧ Step E H fp w nx E' (putH H nx (some (.cells (lenA z) z))) fp' w' (nx + 1) := by
  obtain ⟨v, h1, h2, _⟩ := zero_sound (P := P) (w := w) (RT := RT) (E := E) hz
  obtain ⟨g1, g2⟩ := newCells (n := 1) (wd := lenA z) (e := e) hs hf h2 (by rw [lenA_eq]; omega)
  refine ⟨_, _, .pointer (some ⟨w.heap.size, 0, none⟩), _, ?_, ?_, g1, g2⟩
  · simp [Instr.alloc, h1, newVar, newRow]
  · exact R.ptr (I := ⟨w.heap.size, 0, 1, 1, lenA z, false⟩) (by simp [putI])

theorem box_sound {nx : Nat} {e : TypeId} {x : AV} {u : Value} (hs : Sim RT E H fp w) (hf : Fresh E nx) (hx : RV RT E x u) (hsol : solid x = true) :
    ∃ E' fp' u' w', (Instr.box e u).run P w = .ok u' w' ∧ R RT E' (.ptr nx 0) u' ∧
      Sim RT E' (putH H nx (some (.cells (lenA (cellsA x)) (cellsA x)))) fp' w' ∧ Step E H fp w nx E' (putH H nx (some (.cells (lenA (cellsA x)) (cellsA x)))) fp' w' (nx + 1) := by
  obtain ⟨g1, g2⟩ := newCells (n := 1) (wd := lenA (cellsA x)) (e := e) (vs := u.cells) hs hf (RV.cells hx hsol) (by rw [lenA_eq]; omega)
  refine ⟨_, _, .pointer (some ⟨w.heap.size, 0, none⟩), _, ?_, ?_, g1, g2⟩
  · simp [Instr.box, newVar, newRow]
  · exact R.ptr (I := ⟨w.heap.size, 0, 1, 1, lenA (cellsA x), false⟩) (by simp [putI])

theorem reps_eq (z : List Atom) : ∀ n, buildA.reps n z = (List.replicate n z).flatten
  | 0 => rfl
  | n + 1 => by
    have happ : ∀ xs ys : List Atom, buildA.app xs ys = xs ++ ys := by
      intro xs ys
      induction xs with
      | nil => rfl
      | cons x xs ih => simp [buildA.app, ih]
    simp [buildA.reps, happ, reps_eq z n, List.replicate_succ]

theorem flatten_replicate_get (z : List Atom) (hz : 0 < z.length) : ∀ (n j : Nat), j < n * z.length → ((List.replicate n z).flatten)[j]? = z[j % z.length]?
  | 0, j, h => by omega
  | n + 1, j, h => by
    rw [List.replicate_succ, List.flatten_cons, List.getElem?_append]
    by_cases hj : j < z.length
    · rw [if_pos hj, Nat.mod_eq_of_lt hj]
    · rw [if_neg hj, flatten_replicate_get z hz n (j - z.length) (by rw [Nat.succ_mul] at h; omega)]
      rw [← Nat.mod_eq_sub_mod (by omega)]

theorem zeros_row {z : List Atom} {v : Array Value} (n : Nat) (hc : RCs RT E z v) (hz : 0 < z.length) :
    RCs RT E (buildA.reps n z) ((Array.range (n * v.size)).map (v[· % v.size]!)) := by
  have hsz := hc.1
  rw [reps_eq]
  refine ⟨by simp [hsz], fun j x hj => ?_⟩
  have hlt : j < n * z.length := by
    rcases Nat.lt_or_ge j (n * z.length) with h' | h'
    · exact h'
    · rw [List.getElem?_eq_none (by simp; exact h')] at hj; simp at hj
  rw [flatten_replicate_get z hz n j hlt] at hj
  have hr := hc.2 _ _ hj
  have hm : j % z.length < v.size := by rw [hsz]; exact Nat.mod_lt _ hz
  have : ((Array.range (n * v.size)).map (v[· % v.size]!)).getD j undef = v.getD (j % z.length) undef := by
    simp [Array.getD, hsz, hlt, Nat.mod_lt _ hz]
  rw [this]
  exact hr

theorem ints_cells {kd : IntKind} {l : List Int} {vs : Array Value} (hc : RCs RT E (l.map (Atom.int kd)) vs) :
    vs.size = l.length ∧ ∀ j, j < l.length → vs[j]? = some (.int kd (l.getD j 0)) := by
  have hsz := hc.1
  simp at hsz
  refine ⟨hsz, fun j hj => ?_⟩
  have hr := R.int_inv (hc.2 j (.int kd (l.getD j 0)) (by simp [hj]))
  rw [← hr]
  simp [Array.getD, hsz, hj]

/-- The cells of a new row of elements, as a literal or by make. -/
theorem row_run {e : TypeId} {z : List Atom} {zv : Value} (hzr : (zeroValue e).run P w = .ok zv w) (hc : RCs RT E z zv.cells) (n : Nat) (hsz : z.length = sizeT P e) :
    (do if n * sizeT P e = 0 then pure #[] else do pure (← zeroValue e).cells : Sem (Array Value)).run P w = .ok (if n * sizeT P e = 0 then #[] else zv.cells) w ∧
    RCs RT E (buildA.reps n z) ((Array.range (n * sizeT P e)).map ((if n * sizeT P e = 0 then #[] else zv.cells)[· % (if n * sizeT P e = 0 then #[] else zv.cells).size]!)) := by
  by_cases h0 : n * sizeT P e = 0
  · refine ⟨by simp [h0], ?_⟩
    rw [h0]
    refine ⟨?_, fun j x hj => ?_⟩
    · rw [reps_eq]; simp [hsz]; exact h0.symm
    · rw [reps_eq] at hj
      rw [List.getElem?_eq_none (by simp [hsz, h0])] at hj
      simp at hj
  · refine ⟨by simp [h0, hzr], ?_⟩
    simp only [h0, if_false]
    have hzs := hc.1
    rw [← hsz, ← hzs]
    exact zeros_row n hc (by
      rcases Nat.eq_zero_or_pos z.length with h | h
      · rw [hsz] at h; simp [h] at h0
      · exact h)

theorem fill_len {place : Nat → Option (Nat × Nat)} : ∀ {parts : List (Nat × AV)} {cs cs' : List Atom}, fillA place cs parts = some cs' → cs'.length = cs.length
  | [], cs, cs', h => by simp [fillA] at h; rw [h]
  | p :: ps, cs, cs', h => by
    simp only [fillA] at h
    split at h
    · simp at h
    · split at h
      · rw [fill_len h, putCells_len]
      · simp at h

theorem build_run {t e : TypeId} {n : Nat} {parts : List (Nat × AV)} {us : Array (Nat × Value)} {z cs : List Atom}
    (hp : All2 (fun (p : Nat × AV) (q : Nat × Value) => p.1 = q.1 ∧ RV RT E p.2 q.2) parts us.toList) (hu : P.underlying t = some (.slice e)) (hz : zeroA P e = some z)
    (hfill : fillA (fun i => some (i * sizeT P e, sizeT P e)) (buildA.reps n z) parts = some cs) (hsz : lenA z = sizeT P e) (hn : n * sizeT P e ≤ 1000) :
    cs.length = n * sizeT P e ∧ ∃ vs, RCs RT E cs vs ∧ (Instr.buildSlice t n us).run P w = .ok (.slice (some ⟨w.heap.size, 0, none⟩) n n) (w.alloc (.cells vs e)) := by
  obtain ⟨zv, hzr, hzc, hh⟩ := zero_sound (P := P) (w := w) (RT := RT) (E := E) hz
  rw [lenA_eq] at hsz
  refine ⟨by rw [fill_len hfill, reps_eq]; simp [hsz], ?_⟩
  obtain ⟨r1, r2⟩ := row_run hzr hzc n hsz
  obtain ⟨vs, h1, h2⟩ := fill_sound hp r2 hfill
  refine ⟨vs, h2, ?_⟩
  have hbig : ¬ n * sizeT P e > 2 ^ 24 := by omega
  by_cases h0 : n * sizeT P e = 0
  · simp only [h0, if_true] at h1
    simp only [Instr.buildSlice, Sem.run_bind, run_und hu, Result.andThen_ok, run_size hh, h0, gt_iff_lt, Nat.not_lt_zero, if_false, if_true, Sem.run_pure, h1, newRow, run_newObj]
    rfl
  · simp only [h0, if_false] at h1
    simp only [Instr.buildSlice, Sem.run_bind, run_und hu, Result.andThen_ok, run_size hh, hbig, if_false, h0, hzr, Sem.run_pure, h1, newRow, run_newObj]
    rfl

theorem buildSlice_sound {nx : Nat} {t : TypeId} {n : Nat} {parts : List (Nat × AV)} {us : Array (Nat × Value)} {k : AV → Heap → Nat → Option Y} (hs : Sim RT E H fp w) (hf : Fresh E nx)
    (hp : All2 (fun (p : Nat × AV) (q : Nat × Value) => p.1 = q.1 ∧ RV RT E p.2 q.2) parts us.toList) (hk : buildA P H nx t n parts k = some y) :
    ∃ v H' nx' E' fp' u w', k v H' nx' = some y ∧ (Instr.buildSlice t n us).run P w = .ok u w' ∧ RV RT E' v u ∧ Sim RT E' H' fp' w' ∧ Step E H fp w nx E' H' fp' w' nx' := by
  unfold buildA at hk
  split at hk
  · rename_i e hu
    split at hk
    · rename_i z hz
      split at hk
      · rename_i cs hfill
        obtain ⟨zv, hzr, hzc, hh⟩ := zero_sound (P := P) (w := w) (RT := RT) (E := E) hz
        have main : lenA z = sizeT P e → n * sizeT P e ≤ 1000 → ∃ vs, RCs RT E cs vs ∧ (Instr.buildSlice t n us).run P w = .ok (.slice (some ⟨w.heap.size, 0, none⟩) n n) (w.alloc (.cells vs e)) := by
          intro hsz hn
          rw [lenA_eq] at hsz
          obtain ⟨r1, r2⟩ := row_run hzr hzc n hsz
          obtain ⟨vs, h1, h2⟩ := fill_sound hp r2 hfill
          refine ⟨vs, h2, ?_⟩
          have hbig : ¬ n * sizeT P e > 2 ^ 24 := by omega
          by_cases h0 : n * sizeT P e = 0
          · simp only [h0, if_true] at h1
            simp only [Instr.buildSlice, Sem.run_bind, run_und hu, Result.andThen_ok, run_size hh, h0, gt_iff_lt, Nat.not_lt_zero, if_false, if_true, Sem.run_pure, h1, newRow, run_newObj]
            rfl
          · simp only [h0, if_false] at h1
            simp only [Instr.buildSlice, Sem.run_bind, run_und hu, Result.andThen_ok, run_size hh, hbig, if_false, h0, hzr, Sem.run_pure, h1, newRow, run_newObj]
            rfl
        split at hk
        · rename_i kd he
          split at hk
          · rename_i l hl
            rw [gate_some, gate_some] at hk
            obtain ⟨hg, hn, hk⟩ := hk
            simp only [Bool.and_eq_true] at hg
            have hg1 := Nat.eq_of_beq_eq_true hg.1
            have hg2 := Nat.eq_of_beq_eq_true hg.2
            have hn := Nat.le_of_ble_eq_true hn
            obtain ⟨vs, h2, hrun⟩ := main (by omega) (by rw [hg1]; omega)
            obtain rfl := intsOf_spec hl
            obtain ⟨hvs, hcell⟩ := ints_cells h2
            have hln : l.length = n := by
              obtain ⟨r1, r2⟩ := row_run hzr hzc n (by rw [← lenA_eq]; omega)
              obtain ⟨vs', h1', h2'⟩ := fill_sound hp r2 hfill
              have hlen : ∀ {parts : List (Nat × AV)} {cs cs' : List Atom}, fillA (fun i => some (i * sizeT P e, sizeT P e)) cs parts = some cs' → cs'.length = cs.length := by
                intro parts
                induction parts with
                | nil => intro cs cs' h; simp [fillA] at h; rw [h]
                | cons p ps ih =>
                  intro cs cs' h
                  simp only [fillA] at h
                  split at h
                  · rw [ih h, putCells_len]
                  · simp at h
              have := hlen hfill
              rw [reps_eq] at this
              simp at this
              rw [this, ← lenA_eq, hg2]
              omega
            obtain ⟨g1, g2⟩ := newInts (cap := n) (k := kd) (xs := l) (vs := vs) (e := e) hs hf (by omega) (by omega) hcell
            refine ⟨_, _, _, _, _, _, _, hk, hrun, ?_, g1, g2⟩
            have := R.full (RT := RT) (E := putI E nx ⟨w.heap.size, 0, l.length, n, 1, true⟩) (id := nx) (nn := true) (I := ⟨w.heap.size, 0, l.length, n, 1, true⟩) (base := some ⟨w.heap.size, 0, none⟩) (cap := n) (by simp [putI]) (Or.inl rfl) (fun _ => rfl) (by simp; omega) (fun _ => rfl)
            simp only [hln] at this ⊢
            exact this
          · simp at hk
        · rw [gate_some] at hk
          obtain ⟨hg, hk⟩ := hk
          simp only [Bool.and_eq_true] at hg
          have hg1 := Nat.eq_of_beq_eq_true hg.1
          have hg3 := Nat.le_of_ble_eq_true hg.2.2
          obtain ⟨vs, h2, hrun⟩ := main hg1 hg3
          have hcn : n * sizeT P e = cs.length := by
            have hlen : ∀ {parts : List (Nat × AV)} {cs cs' : List Atom}, fillA (fun i => some (i * sizeT P e, sizeT P e)) cs parts = some cs' → cs'.length = cs.length := by
              intro parts
              induction parts with
              | nil => intro cs cs' h; simp [fillA] at h; rw [h]
              | cons p ps ih =>
                intro cs cs' h
                simp only [fillA] at h
                split at h
                · rw [ih h, putCells_len]
                · simp at h
            have := hlen hfill
            rw [reps_eq] at this
            simp at this
            rw [this, ← lenA_eq, hg1]
          obtain ⟨g1, g2⟩ := newCells (n := n) (wd := sizeT P e) (e := e) hs hf h2 hcn
          refine ⟨_, _, _, _, _, _, _, hk, hrun, ?_, g1, g2⟩
          exact R.full (I := ⟨w.heap.size, 0, n, n, sizeT P e, false⟩) (base := some ⟨w.heap.size, 0, none⟩) (by simp [putI]) (Or.inl rfl) (fun _ => rfl) (Nat.le_refl _) (fun _ => rfl)
      · simp at hk
    · simp at hk
  · simp at hk

theorem wrap_small {l : Int} (h0 : 0 ≤ l) (h1 : l ≤ (most : Int)) : IntKind.i64.wrap l = l := by
  unfold most at h1
  have : l % (2 ^ 64 : Int) = l := Int.emod_eq_of_lt h0 (by omega)
  simp only [IntKind.wrap, IntKind.bits, IntKind.signed, this]
  rw [if_neg]
  simp
  omega

theorem R.nils_inv0 {v : Value} (h : R RT E .nils v) : v = .slice none 0 0 := by cases h; rfl

theorem make_sound {nx : Nat} {t : TypeId} {l c : AV} {ul uc : Value} {k : AV → Heap → Nat → Option Y} (hs : Sim RT E H fp w) (hf : Fresh E nx)
    (hl : RV RT E l ul) (hc : RV RT E c uc) (hk : makeA P H nx t l c k = some y) :
    ∃ v H' nx' E' fp' u w', k v H' nx' = some y ∧ (Instr.makeSlice t ul uc).run P w = .ok u w' ∧ RV RT E' v u ∧ Sim RT E' H' fp' w' ∧ Step E H fp w nx E' H' fp' w' nx' := by
  unfold makeA at hk
  split at hk
  · rename_i e _ l _ c hu
    split at hk
    · rename_i hz
      split at hk
      · rename_i kd hkd
        rw [gate_some, chk_some] at hk
        obtain ⟨hg, ⟨h0, h1, h2⟩, hk⟩ := hk
        simp only [Bool.and_eq_true] at hg
        obtain ⟨hb, hsz⟩ := hg
        have hb := Nat.le_of_ble_eq_true hb
        have hsz := Nat.eq_of_beq_eq_true hsz
        have hl' := R.int_inv hl
        have hc' := R.int_inv hc
        subst hl' hc'
        obtain ⟨zv, hzr, hzc, hh⟩ := zero_sound (P := P) (w := w) (RT := RT) (E := E) hz
        have hzs : zv.cells.size = 1 := hzc.1
        have hz0 : zv.cells[0]? = some (.slice none 0 0) := by
          have := hzc.2 0 .nils rfl
          have := R.nils_inv0 this
          rw [Array.getElem?_eq_getElem (by omega)]
          simpa [Array.getD, hzs] using this
        have hti : (typeInfo e).run P w = .ok ((P.info? e).getD default) w := by
          unfold hasT at hh
          cases hi : P.info? e with
          | none => simp [hi] at hh
          | some i => simp [typeInfo, hi]
        have hbytes : ((P.info? e).getD default).bytes ≤ 100 := by
          unfold Program.bytesOf at hb
          unfold hasT at hh
          cases hi : P.info? e with
          | none => simp [hi] at hh
          | some i => simpa [hi] using hb
        have hm : (most : Int) = 17592186043904 := rfl
        have hwl := wrap_small h0 (by omega : l ≤ (most : Int))
        have hwc := wrap_small (by omega : 0 ≤ c) (by omega : c ≤ (most : Int))
        have htl : ¬ ((((P.info? e).getD default).bytes : Int) * c > 2 ^ 48) := by
          have : (((P.info? e).getD default).bytes : Int) * c ≤ 100 * c := Int.mul_le_mul_of_nonneg_right (by omega) (by omega)
          omega
        let vs : Array Value := (Array.range (c.toNat * sizeT P e)).map ((if c.toNat * sizeT P e = 0 then #[] else zv.cells)[· % (if c.toNat * sizeT P e = 0 then #[] else zv.cells).size]!)
        have hvs : vs.size = c.toNat := by simp [vs, hsz]
        have hcell : ∀ j, j < l.toNat → vs[j]? = some (.slice none 0 0) := by
          intro j hj
          have hjc : j < c.toNat := by omega
          have hne : c.toNat ≠ 0 := by omega
          simp [vs, hsz, hjc, hne, hzs, Nat.mod_one]
          have := hz0
          rw [Array.getElem?_eq_getElem (by omega)] at this
          simpa using this
        obtain ⟨g1, g2⟩ := newRows (n := l.toNat) (cap := c.toNat) (k := kd) (vs := vs) (e := e) hs hf hvs (by omega) hcell
        refine ⟨_, _, _, _, _, .slice (some ⟨w.heap.size, 0, none⟩) l.toNat c.toNat, _, hk, ?_, ?_, g1, g2⟩
        · have hneg : ¬ c < 0 := by omega
          have hneg2 : ¬ l < 0 := by omega
          have hneg3 : ¬ l > c := by omega
          by_cases hn : c.toNat * sizeT P e = 0
          · simp only [Instr.makeSlice, Sem.run_bind, run_und hu, Result.andThen_ok, asInt, asIntOf, Sem.run_pure, hti, hwl, hwc, hneg, hneg2, hneg3, htl, decide_false, Bool.or_false, Bool.false_eq_true, if_false, run_askRoom, run_size hh, hn, if_true, newRow, run_newObj]
            simp only [vs, hn, if_true]
            rfl
          · simp only [Instr.makeSlice, Sem.run_bind, run_und hu, Result.andThen_ok, asInt, asIntOf, Sem.run_pure, hti, hwl, hwc, hneg, hneg2, hneg3, htl, decide_false, Bool.or_false, Bool.false_eq_true, if_false, run_askRoom, run_size hh, hn, hzr, newRow, run_newObj]
            simp only [vs, hn, if_false]
            rfl
        · exact R.full (RT := RT) (E := putI E nx ⟨w.heap.size, 0, l.toNat, c.toNat, 1, true⟩) (id := nx) (nn := true) (I := ⟨w.heap.size, 0, l.toNat, c.toNat, 1, true⟩) (base := some ⟨w.heap.size, 0, none⟩) (cap := c.toNat) (by simp [putI]) (Or.inl rfl) (fun _ => rfl) (by simp only; omega) (fun _ => rfl)
      · simp at hk
    · rename_i kd z hz
      rw [gate_some, chk_some] at hk
      obtain ⟨hg, ⟨h0, h1, h2⟩, hk⟩ := hk
      simp only [Bool.and_eq_true, decide_eq_true_eq] at hg
      obtain ⟨hb, hsz, rfl⟩ := hg
      have hb := Nat.le_of_ble_eq_true hb
      have hsz := Nat.eq_of_beq_eq_true hsz
      have hl' := R.int_inv hl
      have hc' := R.int_inv hc
      subst hl' hc'
      obtain ⟨zv, hzr, hzc, hh⟩ := zero_sound (P := P) (w := w) (RT := RT) (E := E) hz
      obtain ⟨hzs, hzi⟩ := ints_cells (kd := kd) (l := [0]) hzc
      simp at hzs
      have hz0 := hzi 0 (by simp)
      simp at hz0
      have hti : (typeInfo e).run P w = .ok ((P.info? e).getD default) w := by
        unfold hasT at hh
        cases hi : P.info? e with
        | none => simp [hi] at hh
        | some i => simp [typeInfo, hi]
      have hbytes : ((P.info? e).getD default).bytes ≤ 8 := by
        unfold Program.bytesOf at hb
        unfold hasT at hh
        cases hi : P.info? e with
        | none => simp [hi] at hh
        | some i => simpa [hi] using hb
      have hm : (most : Int) = 17592186043904 := rfl
      have hwl := wrap_small h0 (by omega : l ≤ (most : Int))
      have hwc := wrap_small (by omega : 0 ≤ c) h2
      have htl : ¬ ((((P.info? e).getD default).bytes : Int) * c > 2 ^ 48) := by
        have : (((P.info? e).getD default).bytes : Int) * c ≤ 8 * c := Int.mul_le_mul_of_nonneg_right (by omega) (by omega)
        omega
      let vs : Array Value := (Array.range (c.toNat * sizeT P e)).map ((if c.toNat * sizeT P e = 0 then #[] else zv.cells)[· % (if c.toNat * sizeT P e = 0 then #[] else zv.cells).size]!)
      have hvs : vs.size = c.toNat := by simp [vs, hsz]
      have hcell : ∀ j, j < (zeros l.toNat).length → vs[j]? = some (.int kd ((zeros l.toNat).getD j 0)) := by
        intro j hj
        simp [zeros] at hj
        have hjc : j < c.toNat := by omega
        have hne : c.toNat ≠ 0 := by omega
        have hg : (zeros l.toNat).getD j 0 = 0 := by simp [zeros, List.getD_eq_getElem?_getD, hj]
        rw [hg]
        simp [vs, hsz, hjc, hne, hzs, Nat.mod_one]
        have := hz0
        rw [Array.getElem?_eq_getElem (by omega)] at this
        simpa using this
      have hlen : (zeros l.toNat).length = l.toNat := by simp [zeros]
      obtain ⟨g1, g2⟩ := newInts (cap := c.toNat) (k := kd) (xs := zeros l.toNat) (vs := vs) (e := e) hs hf hvs (by rw [hlen]; omega) hcell
      refine ⟨_, _, _, _, _, .slice (some ⟨w.heap.size, 0, none⟩) l.toNat c.toNat, _, hk, ?_, ?_, g1, g2⟩
      · have hneg : ¬ c < 0 := by omega
        have hneg2 : ¬ l < 0 := by omega
        have hneg3 : ¬ l > c := by omega
        by_cases hn : c.toNat * sizeT P e = 0
        · simp only [Instr.makeSlice, Sem.run_bind, run_und hu, Result.andThen_ok, asInt, asIntOf, Sem.run_pure, hti, hwl, hwc, hneg, hneg2, hneg3, htl, decide_false, Bool.or_false, Bool.false_eq_true, if_false, run_askRoom, run_size hh, hn, if_true, newRow, run_newObj]
          simp only [vs, hn, if_true]
          rfl
        · simp only [Instr.makeSlice, Sem.run_bind, run_und hu, Result.andThen_ok, asInt, asIntOf, Sem.run_pure, hti, hwl, hwc, hneg, hneg2, hneg3, htl, decide_false, Bool.or_false, Bool.false_eq_true, if_false, run_askRoom, run_size hh, hn, hzr, newRow, run_newObj]
          simp only [vs, hn, if_false]
          rfl
      · have := R.full (RT := RT) (E := putI E nx ⟨w.heap.size, 0, (zeros l.toNat).length, c.toNat, 1, true⟩) (id := nx) (nn := true) (I := ⟨w.heap.size, 0, (zeros l.toNat).length, c.toNat, 1, true⟩) (base := some ⟨w.heap.size, 0, none⟩) (cap := c.toNat) (by simp [putI]) (Or.inl rfl) (fun _ => rfl) (by simp only [hlen]; omega) (fun _ => rfl)
        simp only [hlen] at this ⊢
        exact this
    · simp at hk
  · simp at hk

/-- A slice of whole numbers is made, as the block b. -/
theorem mk_sound {b : Nat} {t : TypeId} {l c : AV} {ul uc : Value} {k : IntKind → List Int → Option Y} (hs : Sim RT E H fp w) (hf : E.info b = none)
    (hl : RV RT E l ul) (hc : RV RT E c uc) (hk : mkA P t l c k = some y) :
    ∃ kd xs I u w', k kd xs = some y ∧ (Instr.makeSlice t ul uc).run P w = .ok u w' ∧ R RT (putI E b I) (.full b true) u ∧
      Sim RT (putI E b I) (putH H b (some (.ints true kd xs))) (putFp fp b (Own I)) w' ∧ Frm w (fun _ => False) w' ∧ I.cb = w.heap.size := by
  unfold mkA at hk
  split at hk
  · rename_i e _ l _ c hu
    split at hk
    · rename_i kd z hz
      rw [gate_some, chk_some] at hk
      obtain ⟨hg, ⟨h0, h1, h2⟩, hk⟩ := hk
      simp only [Bool.and_eq_true, decide_eq_true_eq] at hg
      obtain ⟨hb, hsz, rfl⟩ := hg
      have hb := Nat.le_of_ble_eq_true hb
      have hsz := Nat.eq_of_beq_eq_true hsz
      have hl' := R.int_inv hl
      have hc' := R.int_inv hc
      subst hl' hc'
      obtain ⟨zv, hzr, hzc, hh⟩ := zero_sound (P := P) (w := w) (RT := RT) (E := E) hz
      obtain ⟨hzs, hzi⟩ := ints_cells (kd := kd) (l := [0]) hzc
      simp at hzs
      have hz0 := hzi 0 (by simp)
      simp at hz0
      have hti : (typeInfo e).run P w = .ok ((P.info? e).getD default) w := by
        unfold hasT at hh
        cases hi : P.info? e with
        | none => simp [hi] at hh
        | some i => simp [typeInfo, hi]
      have hbytes : ((P.info? e).getD default).bytes ≤ 8 := by
        unfold Program.bytesOf at hb
        unfold hasT at hh
        cases hi : P.info? e with
        | none => simp [hi] at hh
        | some i => simpa [hi] using hb
      have hm : (most : Int) = 17592186043904 := rfl
      have hwl := wrap_small h0 (by omega : l ≤ (most : Int))
      have hwc := wrap_small (by omega : 0 ≤ c) h2
      have htl : ¬ ((((P.info? e).getD default).bytes : Int) * c > 2 ^ 48) := by
        have : (((P.info? e).getD default).bytes : Int) * c ≤ 8 * c := Int.mul_le_mul_of_nonneg_right (by omega) (by omega)
        omega
      let vs : Array Value := (Array.range (c.toNat * sizeT P e)).map ((if c.toNat * sizeT P e = 0 then #[] else zv.cells)[· % (if c.toNat * sizeT P e = 0 then #[] else zv.cells).size]!)
      have hvs : vs.size = c.toNat := by simp [vs, hsz]
      have hcell : ∀ j, j < (zeros l.toNat).length → vs[j]? = some (.int kd ((zeros l.toNat).getD j 0)) := by
        intro j hj
        simp [zeros] at hj
        have hjc : j < c.toNat := by omega
        have hne : c.toNat ≠ 0 := by omega
        have hg : (zeros l.toNat).getD j 0 = 0 := by simp [zeros, List.getD_eq_getElem?_getD, hj]
        rw [hg]
        simp [vs, hsz, hjc, hne, hzs, Nat.mod_one]
        have := hz0
        rw [Array.getElem?_eq_getElem (by omega)] at this
        simpa using this
      have hlen : (zeros l.toNat).length = l.toNat := by simp [zeros]
      have hsim : Sim RT (putI E b ⟨w.heap.size, 0, (zeros l.toNat).length, c.toNat, 1, true⟩) (putH H b (some (.ints true kd (zeros l.toNat)))) (putFp fp b (Own ⟨w.heap.size, 0, (zeros l.toNat).length, c.toNat, 1, true⟩)) (w.alloc (.cells vs e)) := by
        refine Sim.add hs hf (Frm.alloc w _ (fun _ => False)) (fun _ _ h => h) (fun _ _ _ h => h) ⟨fun _ => Iff.rfl, by simp only [hlen]; omega, fun x hx => ?_, rfl, rfl, fun _ => rfl, fun j hj => ?_⟩
          (fun x hx => new_apart hs hx.1)
        · obtain ⟨h1, h2, h3⟩ := hx
          simp only [if_true] at h3
          rw [h1, cells_alloc, frozen_alloc]
          exact ⟨vs[x.2]'(by omega), by simp, rfl⟩
        · rw [Nat.zero_add, cells_alloc]
          exact hcell j hj
      refine ⟨kd, zeros l.toNat, _, .slice (some ⟨w.heap.size, 0, none⟩) l.toNat c.toNat, _, hk, ?_, ?_, hsim, Frm.alloc w _ _, rfl⟩
      · have hneg : ¬ c < 0 := by omega
        have hneg2 : ¬ l < 0 := by omega
        have hneg3 : ¬ l > c := by omega
        by_cases hn : c.toNat * sizeT P e = 0
        · simp only [Instr.makeSlice, Sem.run_bind, run_und hu, Result.andThen_ok, asInt, asIntOf, Sem.run_pure, hti, hwl, hwc, hneg, hneg2, hneg3, htl, decide_false, Bool.or_false, Bool.false_eq_true, if_false, run_askRoom, run_size hh, hn, if_true, newRow, run_newObj]
          simp only [vs, hn, if_true]
          rfl
        · simp only [Instr.makeSlice, Sem.run_bind, run_und hu, Result.andThen_ok, asInt, asIntOf, Sem.run_pure, hti, hwl, hwc, hneg, hneg2, hneg3, htl, decide_false, Bool.or_false, Bool.false_eq_true, if_false, run_askRoom, run_size hh, hn, hzr, newRow, run_newObj]
          simp only [vs, hn, if_false]
          rfl
      · have := R.full (RT := RT) (E := putI E b ⟨w.heap.size, 0, (zeros l.toNat).length, c.toNat, 1, true⟩) (id := b) (nn := true) (I := ⟨w.heap.size, 0, (zeros l.toNat).length, c.toNat, 1, true⟩) (base := some ⟨w.heap.size, 0, none⟩) (cap := c.toNat) (by simp [putI]) (Or.inl rfl) (fun _ => rfl) (by simp only [hlen]; omega) (fun _ => rfl)
        simp only [hlen] at this ⊢
        exact this
    · simp at hk
  · simp at hk

/-! ### What a slice holds -/
/-- The cells of a slice of whole numbers, in a world. -/
def Holds (w : World) (kd : IntKind) (xs : List Int) (u : Value) : Prop :=
  ∃ base cap, u = .slice base xs.length cap ∧ xs.length ≤ cap ∧ ∀ i, i < xs.length → ∃ a, base = some a ∧ a.spot = none ∧ w.cell? ⟨a.block, a.off + i, none⟩ = some (.int kd (xs.getD i 0))

theorem ro_sound {kd : IntKind} {x : Atom} {u : Value} {k : List Int → Option Nat → Option Y} (hs : Sim RT E H fp w) (hx : R RT E x u) (hk : roA H kd x k = some y) :
    ∃ xs l, k xs l = some y ∧ Holds w kd xs u ∧
      (match l with
        | none => R RT E (.roi kd xs) u
        | some id => ∃ b, H id = some b ∧ ∀ base cap a i, u = .slice base xs.length cap → base = some a → i < xs.length → fp id (a.block, a.off + i)) := by
  unfold roA at hk
  split at hk
  · rw [gate_some, eqK_iff] at hk
    obtain ⟨rfl, hk⟩ := hk
    refine ⟨_, _, hk, ?_, hx⟩
    cases hx with
    | roi hc hx => exact ⟨_, _, rfl, hc, fun i hi => let ⟨a, hb, hsp, hm⟩ := hx i hi; ⟨a, hb, hsp, (hs.ro _ _ hm).2.1⟩⟩
  · cases hx
    exact ⟨_, _, hk, ⟨none, 0, rfl, Nat.le_refl _, fun i hi => by simp at hi⟩, R.roi (xs := []) (cap := 0) (base := none) (Nat.le_refl _) (fun i hi => by simp at hi)⟩
  · split at hk
    · rename_i id nn _ g kd' xs hb
      rw [gate_some, eqK_iff] at hk
      obtain ⟨rfl, hk⟩ := hk
      cases hx with
      | full hI hbase hn hcc hgg =>
        rename_i cap I base
        obtain ⟨J, hJ, ok⟩ := hs.blk _ _ hb
        rw [hI] at hJ
        obtain rfl := Option.some.inj hJ
        obtain ⟨hw, hnn, hgr, hc⟩ := ok.kind
        have hcap := ok.cap
        refine ⟨_, _, hk, ⟨base, cap, by rw [hnn], by omega, fun i hi => ?_⟩, _, hb, fun base' cap' a i he hba hi => ?_⟩
        · rcases hbase with hbase | ⟨h0, _⟩
          · exact ⟨_, hbase, rfl, hc i hi⟩
          · omega
        · simp only [Value.slice.injEq] at he
          obtain ⟨rfl, _, _⟩ := he
          rcases hbase with hbase | ⟨h0, _⟩
          · rw [hba] at hbase
            obtain rfl := Option.some.inj hbase
            refine (ok.own _).2 ⟨rfl, by simp, ?_⟩
            simp only [hw]
            split <;> omega
          · omega
    · simp at hk
  · split at hk
    · rename_i id lo n _ g kd' xs hb
      rw [gate_some, eqK_iff] at hk
      obtain ⟨rfl, hk⟩ := hk
      cases hx with
      | sub hI hww hl hcap' hbase =>
        rename_i cap I base
        obtain ⟨J, hJ, ok⟩ := hs.blk _ _ hb
        rw [hI] at hJ
        obtain rfl := Option.some.inj hJ
        obtain ⟨hw, hnn, hgr, hc⟩ := ok.kind
        have hcap := ok.cap
        have hlen : ((xs.drop lo).take n).length = n := by simp; omega
        refine ⟨_, _, hk, ⟨base, cap, by rw [hlen], by rw [hlen]; exact hcap', fun i hi => ?_⟩, _, hb, fun base' cap' a i he hba hi => ?_⟩
        · rw [hlen] at hi
          rcases hbase with hbase | h0
          · refine ⟨_, hbase, rfl, ?_⟩
            have := hc (lo + i) (by omega)
            simp only [hw, Nat.mul_one]
            rw [Nat.add_assoc, this]
            congr 2
            simp [List.getD_eq_getElem?_getD, List.getElem?_take_of_lt hi, List.getElem?_drop]
          · omega
        · rw [hlen] at hi
          simp only [Value.slice.injEq] at he
          obtain ⟨rfl, _, _⟩ := he
          rcases hbase with hbase | h0
          · rw [hba] at hbase
            obtain rfl := Option.some.inj hbase
            refine (ok.own _).2 ⟨rfl, by simp; omega, ?_⟩
            simp only [hw]
            split <;> omega
          · omega
    · simp at hk
  · simp at hk

theorem first_run {kd : IntKind} {xs : List Int} {u : Value} (h : Holds w kd xs u) (n : Nat) (hn : n ≤ xs.length) :
    (Builtin.firstCells 1 n u).run P w = .ok ((xs.take n).map (Value.int kd)).toArray w := by
  obtain ⟨base, cap, rfl, hc, hx⟩ := h
  cases base with
  | none =>
    have : n = 0 := by
      rcases Nat.eq_zero_or_pos n with h | h
      · exact h
      · obtain ⟨a, hb, _⟩ := hx 0 (by omega); simp at hb
    subst this
    simp [Builtin.firstCells]
  | some a =>
    simp only [Builtin.firstCells, Nat.mul_one]
    rcases Nat.eq_zero_or_pos n with h0 | h0
    · subst h0; simp [loadCells, loadCellsFrom]
    · obtain ⟨a', hb, hsp, _⟩ := hx 0 (by omega)
      obtain rfl := Option.some.inj hb
      have := run_loadCells (P := P) w a n (fun j => .int kd (xs.getD j 0)) (fun j hj => by
        obtain ⟨a', hb, _, hm⟩ := hx j (by omega)
        obtain rfl := Option.some.inj hb
        rw [addr_eta hsp, add_lit]
        exact hm)
      rw [this]
      congr 2
      apply List.ext_getElem?
      intro j
      by_cases hj : j < n
      · simp [hj, List.getElem?_take_of_lt hj, show j < xs.length by omega]
      · rw [List.getElem?_eq_none (by simp; omega), List.getElem?_eq_none (by simp; omega)]

theorem growBy_le (n : Nat) : ∀ (r c : Nat), c ≤ n + (n + 768) / 4 → Builtin.growBy n r c ≤ n + (n + 768) / 4
  | 0, c, h => by simpa [Builtin.growBy] using h
  | r + 1, c, h => by
    simp only [Builtin.growBy]
    split
    · exact h
    · exact growBy_le n r _ (by omega)

theorem nextcap_le {n c : Nat} (h : c < n) : Builtin.nextslicecap n c ≤ 2 * n + 192 := by
  unfold Builtin.nextslicecap
  split
  · omega
  · split
    · omega
    · have := growBy_le n 4 c (by omega)
      omega

theorem small_facts {e : TypeId} {kd : IntKind} (he : P.underlying e = some (.int kd)) (h : smallT P e = true) :
    hasT P e = true ∧ sizeT P e = 1 ∧ (typeInfo e).run P w = .ok ((P.info? e).getD default) w ∧ ((P.info? e).getD default).bytes ≤ 8 ∧ ∃ zv, (zeroValue e).run P w = .ok zv w ∧ zv.cells.size = 1 := by
  simp only [smallT, Bool.and_eq_true] at h
  obtain ⟨h1, h2, h3⟩ := h
  have hh := has_of_und he
  refine ⟨hh, Nat.eq_of_beq_eq_true h1, ?_⟩
  have h2 := Nat.le_of_ble_eq_true h2
  unfold Program.bytesOf at h2
  obtain ⟨z, hz⟩ : ∃ z, zeroA P e = some [z] := by
    unfold oneZero at h3
    split at h3
    · rename_i z hz; exact ⟨z, hz⟩
    · simp at h3
  obtain ⟨zv, hzv, hzc, _⟩ := zero_sound (P := P) (w := w) (RT := fun _ => none) (E := ⟨fun _ => none, fun _ => none⟩) hz
  unfold hasT at hh
  cases hi : P.info? e with
  | none => simp [hi] at hh
  | some i => exact ⟨by simp [typeInfo, hi], by simpa [hi] using h2, zv, hzv, by simpa using hzc.1⟩

/-- Cells are stored behind a slice's. -/
def Stored (P : Program) (w : World) (base : Option Addr) (n : Nat) (zs : List Value) (w' : World) : Prop :=
  match base with
  | some a => (storeCells (a.add n) zs).run P w = .ok () w'
  | none => w' = w

/-- APPEND: what Go does with room, and without. -/
theorem append_run {t t2 : TypeId} {e e2 : TypeId} {kd : IntKind} {xs ys : List Int} {base : Option Addr} {cap : Nat} {u : Value} (hu : P.underlying t = some (.slice e))
    (hu2 : P.underlying t2 = some (.slice e2)) (he : P.underlying e = some (.int kd)) (hsm : smallT P e = true) (hx : Holds w kd xs (.slice base xs.length cap)) (hy : Holds w kd ys u)
    (hb : xs.length + ys.length ≤ most) (o : TypeId) :
    (xs.length + ys.length ≤ cap ∧ ∀ w', Stored P w base xs.length (ys.map (Value.int kd)) w' →
      (Builtin.append_ #[t, t2] o #[.slice base xs.length cap, u]).run P w = .ok (.slice base (xs.length + ys.length) cap) w') ∨
    (cap < xs.length + ys.length ∧ ∃ newCap vs, xs.length + ys.length ≤ newCap ∧ vs.size = newCap ∧ (∀ j, j < (xs ++ ys).length → vs[j]? = some (.int kd ((xs ++ ys).getD j 0))) ∧
      (Builtin.append_ #[t, t2] o #[.slice base xs.length cap, u]).run P w = .ok (.slice (some ⟨w.heap.size, 0, none⟩) (xs.length + ys.length) newCap) (w.drew.alloc (.cells vs e))) := by
  obtain ⟨hh, hsz, hti, hbytes, zv, hzv, hz1⟩ := small_facts (w := w) he hsm
  obtain ⟨_, _, hti2, _, _, _, _⟩ := small_facts (w := w.drew) he hsm
  have hzv2 : (zeroValue e).run P w.drew = .ok zv w.drew := by
    obtain ⟨_, _, _, _, zv2, h2, _⟩ := small_facts (w := w.drew) he hsm
    have : zv2 = zv := by
      unfold hasT at hh
      cases hi : P.info? e with
      | none => simp [hi] at hh
      | some i =>
        cases hz : i.zero with
        | none => simp [zeroValue, typeInfo, hi, hz] at h2
        | some z =>
          simp [zeroValue, typeInfo, hi, hz] at h2 hzv
          rw [← h2, ← hzv]
    rw [h2, this]
  have hlen : (Builtin.lenOf u).run P w = .ok ys.length w := by
    obtain ⟨b, c, rfl, _⟩ := hy
    rfl
  have hfy : (Builtin.firstCells 1 ys.length u).run P w = .ok (ys.map (Value.int kd)).toArray w := by
    have := first_run (P := P) hy ys.length (Nat.le_refl _)
    rwa [List.take_length] at this
  by_cases hroom : xs.length + ys.length ≤ cap
  · refine Or.inl ⟨hroom, fun w' hw' => ?_⟩
    cases base with
    | none =>
      simp only [Stored] at hw'
      subst hw'
      simp [Builtin.append_, run_und hu, run_und hu2, run_size hh, hsz, hlen, hfy, hroom]
    | some a =>
      simp only [Stored] at hw'
      simp [Builtin.append_, run_und hu, run_und hu2, run_size hh, hsz, hlen, hfy, hroom, hw']
  · refine Or.inr ⟨by omega, ?_⟩
    have hfx : (Builtin.firstCells 1 xs.length (.slice base xs.length cap)).run P w.drew = .ok (xs.map (Value.int kd)).toArray w.drew := by
      have := first_run (P := P) (w := w.drew) (kd := kd) (xs := xs) (u := .slice base xs.length cap) hx xs.length (Nat.le_refl _)
      rwa [List.take_length] at this
    have hfy2 : (Builtin.firstCells 1 ys.length u).run P w.drew = .ok (ys.map (Value.int kd)).toArray w.drew := by
      have := first_run (P := P) (w := w.drew) (kd := kd) (xs := ys) (u := u) hy ys.length (Nat.le_refl _)
      rwa [List.take_length] at this
    let q := Question.appendCap (xs.length + ys.length) cap e
    let nc := q.cut (w.tape w.drawn q)
    have hnc : xs.length + ys.length ≤ nc := by simp only [nc, q, Question.cut]; omega
    let vs : Array Value := (xs.map (Value.int kd)).toArray ++ (ys.map (Value.int kd)).toArray ++ Builtin.zeroCells zv.cells (nc - (xs.length + ys.length))
    have hvs : vs.size = nc := by simp [vs, Builtin.zeroCells, hz1]; omega
    refine ⟨nc, vs, hnc, hvs, fun j hj => ?_, ?_⟩
    · have hj' : j < xs.length + ys.length := by simpa using hj
      simp only [vs]
      rw [Array.getElem?_append_left (by simp; omega)]
      simp only [Array.getElem?_append, List.getElem?_toArray, List.size_toArray, List.length_map]
      by_cases h : j < xs.length
      · rw [if_pos h]
        simp [List.getD_eq_getElem?_getD, h, List.getElem?_append_left h]
      · rw [if_neg h]
        have : j - xs.length < ys.length := by omega
        simp [List.getD_eq_getElem?_getD, List.getElem?_append_right (Nat.le_of_not_lt h), this]
    · have hbig : ¬ ((xs.length + ys.length : Nat) : Int) > IntKind.i64.max := by
        have h1 : IntKind.i64.max = 9223372036854775807 := rfl
        have h2 : most = 17592186043904 := rfl
        omega
      have hnext : ¬ Builtin.nextslicecap (xs.length + ys.length) cap * ((P.info? e).getD default).bytes > 2 ^ 48 := by
        have h1 := nextcap_le (n := xs.length + ys.length) (c := cap) (by omega)
        have h2 : most = 17592186043904 := rfl
        have h3 : Builtin.nextslicecap (xs.length + ys.length) cap * ((P.info? e).getD default).bytes ≤ (2 * (xs.length + ys.length) + 192) * 8 := Nat.mul_le_mul h1 hbytes
        omega
      have hq : (Question.appendCap (xs.length + ys.length) cap e).forced = false := rfl
      have hch : (choose (.appendCap (xs.length + ys.length) cap e)).run P w = .ok nc w.drew := by
        simp only [run_choose, hq, Bool.false_eq_true, if_false]
        rfl
      have hti' : ∀ v : World, (typeInfo e).run P v = .ok ((P.info? e).getD default) v := fun v => (small_facts (w := v) he hsm).2.2.1
      simp only [Builtin.append_, List.getElem?_toArray, List.getElem?_cons_zero, List.getElem?_cons_succ, Sem.run_bind, run_und hu, Result.andThen_ok, run_size hh, hsz, run_und hu2, Sem.run_pure, Bool.false_eq_true, if_false, hlen, hroom, hti', hbig, false_and, hnext, hch, run_askRoom, hfx, Bool.not_false, if_true, hfy2, hzv2, newRow, run_newObj]
      rfl

theorem zeroCells_int {kd : IntKind} {zv : Array Value} (h : zv = #[.int kd 0]) (n : Nat) : Builtin.zeroCells zv n = ((zeros n).map (Value.int kd)).toArray := by
  subst h
  simp only [Builtin.zeroCells, zeros]
  apply Array.ext
  · simp
  · intro i h1 h2
    simp [Nat.mod_one]

theorem zeroInt_facts {e : TypeId} {kd : IntKind} (hz : zeroInt P e kd = true) : ∀ w : World, ∃ zv, (zeroValue e).run P w = .ok zv w ∧ zv.cells = #[.int kd 0] := by
  intro w
  unfold zeroInt at hz
  split at hz
  · rename_i k z hzz
    simp only [Bool.and_eq_true, eqK_iff, decide_eq_true_eq] at hz
    obtain ⟨rfl, rfl⟩ := hz
    obtain ⟨zv, hzr, hzc, hh⟩ := zero_sound (P := P) (w := w) (RT := fun _ => none) (E := ⟨fun _ => none, fun _ => none⟩) hzz
    obtain ⟨hzs, hzi⟩ := ints_cells (kd := kd) (l := [0]) hzc
    simp at hzs
    have hz0 := hzi 0 (by simp)
    refine ⟨zv, hzr, ?_⟩
    apply Array.ext
    · simp [hzs]
    · intro i h1 h2
      have : i = 0 := by simp at h2; omega
      subst this
      rw [Array.getElem?_eq_getElem h1] at hz0
      simpa using hz0
  · simp at hz

/-- APPEND of noughts. -/
theorem append_zero_run {t t2 : TypeId} {e : TypeId} {kd k2 k3 : IntKind} {xs : List Int} {base : Option Addr} {cap : Nat} {n : Int} (hu : P.underlying t = some (.slice e))
    (hu2 : P.underlying t2 = some (.int k2)) (he : P.underlying e = some (.int kd)) (hsm : smallT P e = true) (hzi : zeroInt P e kd = true) (hx : Holds w kd xs (.slice base xs.length cap))
    (hn0 : 0 ≤ n) (hn1 : n ≤ (most : Int)) (hb : xs.length + (zeros n.toNat).length ≤ most) (o : TypeId) :
    (xs.length + (zeros n.toNat).length ≤ cap ∧ ∀ w', Stored P w base xs.length ((zeros n.toNat).map (Value.int kd)) w' →
      (Builtin.append_ #[t, t2] o #[.slice base xs.length cap, .int k3 n]).run P w = .ok (.slice base (xs.length + (zeros n.toNat).length) cap) w') ∨
    (cap < xs.length + (zeros n.toNat).length ∧ ∃ newCap vs, xs.length + (zeros n.toNat).length ≤ newCap ∧ vs.size = newCap ∧ (∀ j, j < (xs ++ zeros n.toNat).length → vs[j]? = some (.int kd ((xs ++ zeros n.toNat).getD j 0))) ∧
      (Builtin.append_ #[t, t2] o #[.slice base xs.length cap, .int k3 n]).run P w = .ok (.slice (some ⟨w.heap.size, 0, none⟩) (xs.length + (zeros n.toNat).length) newCap) (w.drew.alloc (.cells vs e))) := by
  obtain ⟨hh, hsz, hti, hbytes, _⟩ := small_facts (w := w) he hsm
  obtain ⟨zv, hzv, hzc⟩ := zeroInt_facts hzi w
  have hzv2 : (zeroValue e).run P w.drew = .ok zv w.drew := by
    obtain ⟨zv2, h2, _⟩ := zeroInt_facts hzi w.drew
    have : zv2 = zv := by
      unfold hasT at hh
      cases hi : P.info? e with
      | none => simp [hi] at hh
      | some i =>
        cases hz : i.zero with
        | none => simp [zeroValue, typeInfo, hi, hz] at h2
        | some z =>
          simp [zeroValue, typeInfo, hi, hz] at h2 hzv
          rw [← h2, ← hzv]
    rw [h2, this]
  have hlz : (zeros n.toNat).length = n.toNat := by simp [zeros]
  rw [hlz] at hb ⊢
  have hwl := wrap_small hn0 hn1
  have hm : (most : Int) = 17592186043904 := rfl
  have hneg : ¬ n < 0 := by omega
  have htl : ¬ (n * (((P.info? e).getD default).bytes : Int) > 2 ^ 48) := by
    have : n * (((P.info? e).getD default).bytes : Int) ≤ n * 8 := Int.mul_le_mul_of_nonneg_left (by omega) hn0
    omega
  have hti' : ∀ v : World, (typeInfo e).run P v = .ok ((P.info? e).getD default) v := fun v => (small_facts (w := v) he hsm).2.2.1
  have happ : ∀ v : World, (zeroValue e).run P v = .ok zv v → ((if n.toNat * 1 = 0 then pure #[] else do pure (Builtin.zeroCells (← zeroValue e).cells n.toNat) : Sem (Array Value))).run P v = .ok (((zeros n.toNat).map (Value.int kd)).toArray) v := by
    intro v hv
    by_cases h0 : n.toNat * 1 = 0
    · rw [if_pos h0]
      have : n.toNat = 0 := by omega
      simp [this, zeros]
    · rw [if_neg h0]
      simp only [Sem.run_bind, hv, Result.andThen_ok, Sem.run_pure, zeroCells_int hzc]
  by_cases hroom : xs.length + n.toNat ≤ cap
  · refine Or.inl ⟨hroom, fun w' hw' => ?_⟩
    cases base with
    | none =>
      simp only [Stored] at hw'
      subst hw'
      simp only [Builtin.append_, List.getElem?_toArray, List.getElem?_cons_zero, List.getElem?_cons_succ, Sem.run_bind, run_und hu, Result.andThen_ok, run_size hh, hsz, run_und hu2, Sem.run_pure, if_true, asInt, asIntOf, hwl, hneg, if_false, hti', htl, hroom, Bool.not_true, Bool.false_eq_true, happ _ hzv]
    | some a =>
      simp only [Stored] at hw'
      simp only [Builtin.append_, List.getElem?_toArray, List.getElem?_cons_zero, List.getElem?_cons_succ, Sem.run_bind, run_und hu, Result.andThen_ok, run_size hh, hsz, run_und hu2, Sem.run_pure, if_true, asInt, asIntOf, hwl, hneg, if_false, hti', htl, hroom, Bool.not_true, Bool.false_eq_true, happ _ hzv]
      simp only [Nat.mul_one, hw', Result.andThen_ok]
  · refine Or.inr ⟨by omega, ?_⟩
    have hfx : (Builtin.firstCells 1 xs.length (.slice base xs.length cap)).run P w.drew = .ok (xs.map (Value.int kd)).toArray w.drew := by
      have := first_run (P := P) (w := w.drew) (kd := kd) (xs := xs) (u := .slice base xs.length cap) hx xs.length (Nat.le_refl _)
      rwa [List.take_length] at this
    let q := Question.appendCap (xs.length + n.toNat) cap e
    let nc := q.cut (w.tape w.drawn q)
    have hnc : xs.length + n.toNat ≤ nc := by simp only [nc, q, Question.cut]; omega
    let vs : Array Value := (xs.map (Value.int kd)).toArray ++ ((zeros n.toNat).map (Value.int kd)).toArray ++ Builtin.zeroCells zv.cells (nc - (xs.length + n.toNat))
    have hvs : vs.size = nc := by simp [vs, zeroCells_int hzc, zeros]; omega
    refine ⟨nc, vs, hnc, hvs, fun j hj => ?_, ?_⟩
    · have hj' : j < xs.length + n.toNat := by simpa [zeros] using hj
      simp only [vs]
      rw [Array.getElem?_append_left (by simp [zeros]; omega)]
      simp only [Array.getElem?_append, List.getElem?_toArray, List.size_toArray, List.length_map]
      by_cases h : j < xs.length
      · rw [if_pos h]
        simp [List.getD_eq_getElem?_getD, h, List.getElem?_append_left h]
      · rw [if_neg h]
        have : j - xs.length < (zeros n.toNat).length := by rw [hlz]; omega
        simp [List.getD_eq_getElem?_getD, List.getElem?_append_right (Nat.le_of_not_lt h), this]
    · have hbig : ¬ ((xs.length + n.toNat : Nat) : Int) > IntKind.i64.max := by
        have h1 : IntKind.i64.max = 9223372036854775807 := rfl
        have h2 : most = 17592186043904 := rfl
        omega
      have hnext : ¬ Builtin.nextslicecap (xs.length + n.toNat) cap * ((P.info? e).getD default).bytes > 2 ^ 48 := by
        have h1 := nextcap_le (n := xs.length + n.toNat) (c := cap) (by omega)
        have h2 : most = 17592186043904 := rfl
        have h3 : Builtin.nextslicecap (xs.length + n.toNat) cap * ((P.info? e).getD default).bytes ≤ (2 * (xs.length + n.toNat) + 192) * 8 := Nat.mul_le_mul h1 hbytes
        omega
      have hq : (Question.appendCap (xs.length + n.toNat) cap e).forced = false := rfl
      have hch : (choose (.appendCap (xs.length + n.toNat) cap e)).run P w = .ok nc w.drew := by
        simp only [run_choose, hq, Bool.false_eq_true, if_false]
        rfl
      simp only [Builtin.append_, List.getElem?_toArray, List.getElem?_cons_zero, List.getElem?_cons_succ, Sem.run_bind, run_und hu, Result.andThen_ok, run_size hh, hsz, run_und hu2, Sem.run_pure, if_true, asInt, asIntOf, hwl, hneg, if_false, hti', htl, hroom, Bool.not_true, Bool.false_eq_true, hbig, false_and, hnext, hch, run_askRoom, hfx, happ _ hzv2, hzv2, newRow, run_newObj]
      rfl

theorem cont_sound {kd : IntKind} {x : AV} {u : Value} {k : List Int → Option Y} (hs : Sim RT E H fp w) (hx : RV RT E x u) (hk : contA H kd x k = some y) :
    ∃ ys, k ys = some y ∧ Holds w kd ys u := by
  cases x with
  | «at» b =>
    obtain ⟨ys, l, h1, h2, _⟩ := ro_sound (k := fun xs _ => k xs) hs hx hk
    exact ⟨ys, h1, h2⟩
  | _ => simp [contA] at hk

theorem ints_map_get (kd : IntKind) (xs : List Int) {j : Nat} (h : j < xs.length) : (xs.map (Value.int kd))[j]? = some (.int kd (xs.getD j 0)) := by
  simp [h]

/-- A row of whole numbers is laid into new memory. -/
theorem grown_sound {nx : Nat} {kd : IntKind} {zs : List Int} {vs : Array Value} {e : TypeId} {nn : Bool} {newCap : Nat} {H0 : Heap} (hs : Sim RT E H fp w) (hf : Fresh E nx)
    (hsub : ∀ id b, H id = some b → H0 id = some b) (hcap : zs.length ≤ newCap) (hvs : vs.size = newCap) (hc : ∀ j, j < zs.length → vs[j]? = some (.int kd (zs.getD j 0))) :
    ∃ E' fp', RV RT E' (.at (.full nx nn)) (.slice (some ⟨w.heap.size, 0, none⟩) zs.length newCap) ∧ Sim RT E' (putH H nx (some (.ints true kd zs))) fp' (w.drew.alloc (.cells vs e)) ∧
      Step E H0 fp w nx E' (putH H nx (some (.ints true kd zs))) fp' (w.drew.alloc (.cells vs e)) (nx + 1) := by
  have hd := hs.frm (Frm.drew w (fun _ => False)) (fun _ _ h => h) (fun _ _ _ h => h)
  obtain ⟨g1, g2⟩ := newInts (cap := newCap) (k := kd) (xs := zs) (vs := vs) (e := e) hd hf hvs hcap hc
  refine ⟨_, _, ?_, g1, ⟨g2.le, ?_, ?_, g2.nx, g2.fresh, fun ad v h => (g2.ext ad v h).imp (fun h => h) (Or.imp (fun h => h) fun ⟨id, b, hb, hx⟩ => ⟨id, b, hsub _ _ hb, hx⟩)⟩⟩
  · exact R.full (I := ⟨w.heap.size, 0, zs.length, newCap, 1, true⟩) (base := some ⟨w.heap.size, 0, none⟩) (by simp [putI]) (Or.inl rfl) (fun _ => rfl) hcap (fun _ => rfl)
  · exact (Frm.drew w _).trans (g2.frm.mono (O' := OwnAll H0 fp) fun x ⟨id, b, hb, hx⟩ => ⟨id, b, hsub _ _ hb, hx⟩) fun x hx _ => hx
  · intro x hx hlt
    obtain ⟨id, b, hb, hfx⟩ := g2.own x hx hlt
    exact ⟨id, b, hsub _ _ hb, hfx⟩

/-- An append onto a block that is told of. -/
theorem append_core {nx id : Nat} {nn : Bool} {e : TypeId} {kd : IntKind} {xs ys : List Int} {f : Value → Sem Value} {ux : Value} {k : AV → Heap → Nat → Option Y} (hs : Sim RT E H fp w) (hf : Fresh E nx)
    (hb : H id = some (.ints true kd xs)) (hx : R RT E (.full id nn) ux)
    (hrunA : ∀ {base : Option Addr} {cap : Nat}, Holds w kd xs (.slice base xs.length cap) →
      (xs.length + ys.length ≤ cap ∧ ∀ w', Stored P w base xs.length (ys.map (Value.int kd)) w' →
        (f (.slice base xs.length cap)).run P w = .ok (.slice base (xs.length + ys.length) cap) w') ∨
      (cap < xs.length + ys.length ∧ ∃ newCap vs, xs.length + ys.length ≤ newCap ∧ vs.size = newCap ∧ (∀ j, j < (xs ++ ys).length → vs[j]? = some (.int kd ((xs ++ ys).getD j 0))) ∧
        (f (.slice base xs.length cap)).run P w = .ok (.slice (some ⟨w.heap.size, 0, none⟩) (xs.length + ys.length) newCap) (w.drew.alloc (.cells vs e))))
    (hk : k (.at (.full nx nn)) (putH (putH H id none) nx (some (.ints true kd (xs ++ ys)))) (nx + 1) = some y) :
    ∃ v H' nx' E' fp' u w', k v H' nx' = some y ∧ (f ux).run P w = .ok u w' ∧ RV RT E' v u ∧ Sim RT E' H' fp' w' ∧ Step E H fp w nx E' H' fp' w' nx' := by
  cases hx with
  | full hI hbase hn hcc hgg =>
    rename_i cap I base
    obtain ⟨J, hJ, ok⟩ := hs.blk _ _ hb
    rw [hI] at hJ
    obtain rfl := Option.some.inj hJ
    obtain ⟨hw, hnn, hgr, hc⟩ := ok.kind
    have hgr := hgr rfl
    have hcap := ok.cap
    obtain rfl := hgg hgr
    have hsk : Sim RT E (putH H id none) fp w := hs.sub kill_sub
    have hHx : Holds w kd xs (.slice base xs.length I.cap) := ⟨base, I.cap, rfl, by omega, fun i hi => by
      rcases hbase with hbase | ⟨h0, _⟩
      · exact ⟨_, hbase, rfl, hc i hi⟩
      · omega⟩
    rw [hnn]
    rcases hrunA hHx with ⟨hr, hrun⟩ | ⟨hlt, newCap, vs, h1, h2, h3, h4⟩
    · -- in place
      let J : Info := ⟨I.cb, I.coff, (xs ++ ys).length, I.cap, 1, true⟩
      have hJI : ∀ x, Own J x ↔ fp id x := by
        intro x
        rw [ok.own x]
        simp only [Own, J, hgr, if_true, hw]
      have hlive : ∀ j, j < ys.length → fp id (I.cb, I.coff + (xs.length + j)) := by
        intro j hj
        refine (ok.own _).2 ⟨rfl, by simp, ?_⟩
        simp only [hgr, if_true, hw]
        omega
      have hdead : ∀ x, OwnAll (putH H id none) fp x → ¬ fp id x := by
        rintro x ⟨id', b', hb', hx'⟩ hfx
        rw [putH_eq] at hb'
        split at hb'
        · simp at hb'
        · rename_i hne
          exact hs.disj _ _ _ _ x (kill_sub id' b' (by rw [putH_eq, if_neg hne]; exact hb')) hb hne hx' hfx
      have key : ∀ w', Frm w (fun x => x.1 = I.cb ∧ I.coff + xs.length ≤ x.2 ∧ x.2 < I.coff + xs.length + ys.length) w' →
          (∀ j, j < ys.length → w'.cell? ⟨I.cb, I.coff + (xs.length + j), none⟩ = some (.int kd (ys.getD j 0))) →
          Sim RT (putI E nx J) (putH (putH H id none) nx (some (.ints true kd (xs ++ ys)))) (putFp fp nx (Own J)) w' ∧
          Step E H fp w nx (putI E nx J) (putH (putH H id none) nx (some (.ints true kd (xs ++ ys)))) (putFp fp nx (Own J)) w' (nx + 1) := by
        intro w' hF hnew
        have hOf : ∀ x : Nat × Nat, (x.1 = I.cb ∧ I.coff + xs.length ≤ x.2 ∧ x.2 < I.coff + xs.length + ys.length) → fp id x := by
          rintro ⟨x1, x2⟩ ⟨rfl, hx2, hx3⟩
          have := hlive (x2 - I.coff - xs.length) (by simp only at hx3; omega)
          rw [show I.coff + (xs.length + (x2 - I.coff - xs.length)) = x2 by simp only at hx2; omega] at this
          exact this
        refine ⟨Sim.add hsk (hf _ (Nat.le_refl _)) hF (fun x hx hO => hdead x hx (hOf x hO)) (fun a v ha hO => (hs.ro a v ha).2.2 id _ hb (hOf _ hO)) ⟨fun _ => Iff.rfl, ?_, fun x hx => ?_, rfl, rfl, fun _ => rfl, fun j hj => ?_⟩
          (fun x hx => ⟨fun id' b' hb' hx' => hdead x ⟨id', b', hb', hx'⟩ ((hJI x).1 hx), fun a v ha he => (hs.ro a v ha).2.2 id _ hb (by rw [he]; exact (hJI x).1 hx)⟩),
          Step.add hf kill_sub (hF.mono fun x hx => ⟨id, _, hb, hOf x hx⟩) (fun x hx _ => ⟨id, _, hb, (hJI x).1 hx⟩)⟩
        · simp only [J, List.length_append]; omega
        · obtain ⟨v, hv, hz⟩ := ok.live x ((hJI x).1 hx)
          obtain ⟨v', hv'⟩ := hF.live hv
          exact ⟨v', hv', by rw [hF.frozen (World.block_lt_of_cell? _ _ hv)]; exact hz⟩
        · simp only [J]
          by_cases hjx : j < xs.length
          · rw [hF.cell (hc j hjx) (by simp; omega)]
            simp [List.getD_eq_getElem?_getD, List.getElem?_append_left hjx]
          · have hj' : j < xs.length + ys.length := by simpa using hj
            have := hnew (j - xs.length) (by omega)
            rw [show xs.length + (j - xs.length) = j by omega] at this
            rw [this]
            simp [List.getD_eq_getElem?_getD, List.getElem?_append_right (Nat.le_of_not_lt hjx)]
      have hres : ∀ w', Sim RT (putI E nx J) (putH (putH H id none) nx (some (.ints true kd (xs ++ ys)))) (putFp fp nx (Own J)) w' →
          RV RT (putI E nx J) (.at (.full nx nn)) (.slice base (xs.length + ys.length) I.cap) := by
        intro w' _
        have := R.full (RT := RT) (E := putI E nx J) (id := nx) (nn := nn) (I := J) (base := base) (cap := I.cap) (by simp [putI]) (by
          rcases hbase with hbase | ⟨h0, h1⟩
          · exact Or.inl hbase
          · have := h1 hgr
            refine Or.inr ⟨?_, fun _ => this⟩; simp only [J, List.length_append]; omega) hn (by simp only [J, List.length_append]; omega) (fun _ => rfl)
        simp only [J, List.length_append] at this ⊢
        exact this
      rcases hbase with hbase | ⟨h0, hc0⟩
      · subst hbase
        obtain ⟨w', s1, s2, s3⟩ := storeCells_run (P := P) (b := I.cb) (o := I.coff + xs.length) (ys.map (Value.int kd)) 0 w (fun v hv => by
          obtain ⟨n, _, rfl⟩ := List.mem_map.1 hv; rfl) (fun j hj => by
          have := ok.live _ (hlive j (by simpa using hj))
          simp only [Nat.zero_add]
          rw [← Nat.add_assoc] at this
          exact this)
        have hrun := hrun w' (by simp only [Stored, add_lit]; exact s1)
        obtain ⟨k1, k2⟩ := key w' (by simpa using s2) (fun j hj => by
          have := s3 j (by simpa using hj)
          rw [Nat.zero_add, ints_map_get kd ys hj] at this
          rw [← Nat.add_assoc]
          exact this)
        exact ⟨_, _, _, _, _, _, _, hk, hrun, hres w' k1, k1, k2⟩
      · have hc0 := hc0 hgr
        have hy0 : ys = [] := by
          have : ys.length = 0 := by omega
          simpa using this
        subst hy0
        have hrun := hrun w (by
          cases base with
          | none => rfl
          | some a => rfl)
        obtain ⟨k1, k2⟩ := key w (Frm.refl w _) (fun j hj => by simp at hj)
        exact ⟨_, _, _, _, _, _, _, hk, hrun, hres w k1, k1, k2⟩
    · rw [← List.length_append] at h1 h4
      obtain ⟨E', fp', g1, g2, g3⟩ := grown_sound (H0 := H) (nx := nx) (nn := nn) (e := e) hsk hf kill_sub h1 h2 h3
      exact ⟨_, _, _, E', fp', _, _, hk, h4, g1, g2, g3⟩

theorem append_sound {nx : Nat} {t t2 o : TypeId} {x z : AV} {ux uz : Value} {k : AV → Heap → Nat → Option Y} (hs : Sim RT E H fp w) (hf : Fresh E nx)
    (hx : RV RT E x ux) (hz : RV RT E z uz) (hk : appendA P H nx t t2 x z k = some y) :
    ∃ v H' nx' E' fp' u w', k v H' nx' = some y ∧ (Builtin.append_ #[t, t2] o #[ux, uz]).run P w = .ok u w' ∧ RV RT E' v u ∧ Sim RT E' H' fp' w' ∧ Step E H fp w nx E' H' fp' w' nx' := by
  unfold appendA at hk
  split at hk
  · rename_i e k2 hu hu2
    split at hk
    · rename_i kd id nn k3 n he
      split at hk
      · rename_i kd' xs hb
        rw [gate_some, chk_some, chk_some] at hk
        obtain ⟨hg, ⟨hn0, hn1⟩, hbd, hk⟩ := hk
        simp only [Bool.and_eq_true, eqK_iff] at hg
        obtain ⟨hsm, hzi, rfl⟩ := hg
        have hz' := R.int_inv hz
        subst hz'
        have hlz : (zeros n.toNat).length = n.toNat := by simp [zeros]
        exact append_core (f := fun u => Builtin.append_ #[t, t2] o #[u, .int k3 n]) hs hf hb hx (fun hHx => append_zero_run (P := P) (w := w) hu hu2 he hsm hzi hHx hn0 hn1 (by rw [hlz]; exact hbd) o) hk
      · simp at hk
    · simp at hk
  · rename_i e e2 hu hu2
    split at hk
    · rename_i kd he
      rw [gate_some] at hk
      obtain ⟨hsm, hk⟩ := hk
      obtain ⟨ys, hk, hy⟩ := cont_sound hs hz hk
      rw [chk_some] at hk
      obtain ⟨hb, hk⟩ := hk
      have hx' : ux = .slice none 0 0 := by cases hx; rfl
      subst hx'
      have hHx : Holds w kd [] (.slice none 0 0) := ⟨none, 0, rfl, Nat.le_refl _, fun i hi => by simp at hi⟩
      rcases append_run (P := P) (w := w) hu hu2 he hsm hHx hy (by simpa using hb) o with ⟨hr, hrun⟩ | ⟨hlt, newCap, vs, h1, h2, h3, h4⟩
      · simp only [List.length_nil, Nat.zero_add] at hr
        have hys : ys = [] := by simpa using hr
        subst hys
        have hrun := hrun w rfl
        simp only [List.length_nil, Nat.zero_add] at hrun
        have hadd := Sim.add (nx := nx) (b := .ints true kd []) (I := ⟨0, 0, 0, 0, 1, true⟩) (w' := w) (O := fun _ => False) hs (hf _ (Nat.le_refl _)) (Frm.refl w _) (fun _ _ h => h) (fun _ _ _ h => h)
          ⟨fun _ => Iff.rfl, Nat.le_refl _, fun x hx => by obtain ⟨_, _, h⟩ := hx; simp at h, rfl, rfl, fun _ => rfl, fun j hj => by simp at hj⟩
          (fun x hx => by obtain ⟨_, _, h⟩ := hx; simp at h)
        refine ⟨_, _, _, _, _, _, _, hk, hrun, ?_, hadd, Step.add hf (fun _ _ h => h) (Frm.refl w _) (fun x hx => by obtain ⟨_, _, h⟩ := hx; simp at h)⟩
        exact R.full (I := ⟨0, 0, 0, 0, 1, true⟩) (by simp [putI]) (Or.inr ⟨rfl, fun _ => rfl⟩) (fun h => by simp at h) (Nat.le_refl _) (fun _ => rfl)
      · simp only [List.length_nil, Nat.zero_add, List.nil_append] at h1 h3 h4
        obtain ⟨E', fp', g1, g2, g3⟩ := grown_sound (H0 := H) (nx := nx) (nn := false) (e := e) hs hf (fun _ _ h => h) h1 h2 h3
        exact ⟨_, _, _, E', fp', _, _, hk, h4, g1, g2, g3⟩
    · rename_i kd id nn he
      split at hk
      · rename_i kd' xs hb
        rw [gate_some] at hk
        obtain ⟨hg, hk⟩ := hk
        simp only [Bool.and_eq_true, eqK_iff] at hg
        obtain ⟨hsm, rfl⟩ := hg
        obtain ⟨ys, hk, hy⟩ := cont_sound hs hz hk
        rw [chk_some] at hk
        obtain ⟨hbd, hk⟩ := hk
        exact append_core (f := fun u => Builtin.append_ #[t, t2] o #[u, uz]) hs hf hb hx (fun hHx => append_run (P := P) (w := w) hu hu2 he hsm hHx hy hbd o) hk
      · simp at hk
    · simp at hk
  · simp at hk

theorem copy_run {t : TypeId} {e : TypeId} {kd kd0 : IntKind} {ys : List Int} {base : Option Addr} {dl cap : Nat} {u : Value} {w' : World} (hu : P.underlying t = some (.slice e))
    (he : P.underlying e = some (.int kd0)) (hsm : smallT P e = true) (hy : Holds w kd ys u) (o : TypeId) (ts : Array TypeId) (ht : ts[0]? = some t)
    (hw' : match base with | some a => (storeCells a ((ys.take (min ys.length dl)).map (Value.int kd))).run P w = .ok () w' | none => w' = w) :
    (Builtin.copy_ ts o #[.slice base dl cap, u]).run P w = .ok (.int .i64 ((min ys.length dl : Nat) : Int)) w' := by
  obtain ⟨hh, hsz, _⟩ := small_facts (w := w) he hsm
  have hlen : (Builtin.lenOf u).run P w = .ok ys.length w := by
    obtain ⟨b, c, rfl, _⟩ := hy
    rfl
  have hf := first_run (P := P) hy (min ys.length dl) (Nat.min_le_left _ _)
  have hmin : Nat.min ys.length dl = min ys.length dl := rfl
  cases base with
  | none =>
    simp only at hw'
    subst hw'
    simp only [Builtin.copy_, ht, List.getElem?_toArray, List.getElem?_cons_zero, List.getElem?_cons_succ, Sem.run_bind, run_und hu, Result.andThen_ok, hlen, run_size hh, hsz, hmin, hf, Sem.run_pure, goInt]
  | some a =>
    simp only at hw'
    simp only [Builtin.copy_, ht, List.getElem?_toArray, List.getElem?_cons_zero, List.getElem?_cons_succ, Sem.run_bind, run_und hu, Result.andThen_ok, hlen, run_size hh, hsz, hmin, hf, hw', Sem.run_pure, goInt]

/-- Some cells of a row of whole numbers are written. -/
theorem patch_sound {nx id : Nat} {g : Bool} {kd kd' : IntKind} {xs zs : List Int} {I : Info} {lo : Nat} (hs : Sim RT E H fp w) (hf : Fresh E nx) (hb : H id = some (.ints g kd xs)) (hI : E.info id = some I)
    (hkd : zs = [] ∨ kd = kd') (hlo : lo + zs.length ≤ xs.length) (P : Program) :
    ∃ w', (storeCells ⟨I.cb, I.coff + lo, none⟩ (zs.map (Value.int kd'))).run P w = .ok () w' ∧
      Sim RT E (putH H id (some (.ints g kd (xs.take lo ++ (zs ++ xs.drop (lo + zs.length)))))) fp w' ∧
      Step E H fp w nx E (putH H id (some (.ints g kd (xs.take lo ++ (zs ++ xs.drop (lo + zs.length)))))) fp w' nx := by
  obtain ⟨J, hJ, ok⟩ := hs.blk _ _ hb
  rw [hI] at hJ
  obtain rfl := Option.some.inj hJ
  obtain ⟨hw, hnn, hgr, hc⟩ := ok.kind
  have hcap := ok.cap
  have hlive : ∀ j, j < xs.length → fp id (I.cb, I.coff + j) := by
    intro j hj
    refine (ok.own _).2 ⟨rfl, by simp, ?_⟩
    simp only [hw]
    split <;> omega
  obtain ⟨w', s1, s2, s3⟩ := storeCells_run (P := P) (b := I.cb) (o := I.coff + lo) (zs.map (Value.int kd')) 0 w (fun v hv => by
    obtain ⟨n, _, rfl⟩ := List.mem_map.1 hv; rfl) (fun j hj => by
    have := ok.live _ (hlive (lo + j) (by simp at hj; omega))
    simp only [Nat.zero_add]
    rw [← Nat.add_assoc] at this
    exact this)
  have hOf : ∀ x : Nat × Nat, (x.1 = I.cb ∧ I.coff + lo + 0 ≤ x.2 ∧ x.2 < I.coff + lo + 0 + (zs.map (Value.int kd')).length) → fp id x := by
    rintro ⟨x1, x2⟩ ⟨rfl, hx2, hx3⟩
    simp only [List.length_map] at hx3
    have := hlive (x2 - I.coff) (by simp only at hx2; omega)
    rw [show I.coff + (x2 - I.coff) = x2 by simp only at hx2; omega] at this
    exact this
  refine ⟨w', s1, hs.write hb hI s2 hOf ⟨ok.own, ok.cap, fun x hx => ?_, hw, by simp; omega, hgr, fun j hj => ?_⟩, Step.same hf (s2.mono fun x hx => ⟨id, _, hb, hOf x hx⟩) (put_some hb)⟩
  · obtain ⟨v, hv, hz⟩ := ok.live x hx
    obtain ⟨v', hv'⟩ := s2.live hv
    exact ⟨v', hv', by rw [s2.frozen (World.block_lt_of_cell? _ _ hv)]; exact hz⟩
  · have hj' : j < xs.length := by simp at hj; omega
    have htl : (xs.take lo).length = lo := by simp; omega
    by_cases h1 : j < lo
    · rw [s2.cell (hc j hj') (by simp; omega)]
      simp [List.getD_eq_getElem?_getD, List.getElem?_append_left (show j < (xs.take lo).length by omega), List.getElem?_take_of_lt h1]
    · by_cases h2 : j < lo + zs.length
      · have := s3 (j - lo) (by simp; omega)
        rw [Nat.zero_add, ints_map_get kd' zs (by omega), show I.coff + lo + (j - lo) = I.coff + j by omega] at this
        rw [this]
        have hk : kd = kd' := by
          rcases hkd with h | h
          · subst h; simp at h2; omega
          · exact h
        subst hk
        congr 2
        simp only [List.getD_eq_getElem?_getD]
        rw [List.getElem?_append_right (by omega), htl, List.getElem?_append_left (by omega)]
      · rw [s2.cell (hc j hj') (by simp; omega)]
        congr 2
        simp only [List.getD_eq_getElem?_getD]
        rw [List.getElem?_append_right (by omega), htl, List.getElem?_append_right (by omega), List.getElem?_drop]
        congr 2
        omega

theorem copy_sound {nx : Nat} {t o : TypeId} {d z : AV} {ud uz : Value} {k : AV → Heap → Option Y} (hs : Sim RT E H fp w) (hf : Fresh E nx)
    (hd : RV RT E d ud) (hz : RV RT E z uz) (hk : copyA P H t d z k = some y) (ts : Array TypeId) (ht : ts[0]? = some t) :
    ∃ v H' u w', k v H' = some y ∧ (Builtin.copy_ ts o #[ud, uz]).run P w = .ok u w' ∧ RV RT E v u ∧ Sim RT E H' fp w' ∧ Step E H fp w nx E H' fp w' nx := by
  have hint : ∀ {e}, isIntT P e = true → ∃ kd', P.underlying e = some (.int kd') := by
    intro e h
    unfold isIntT at h
    split at h
    · rename_i kd' h'; exact ⟨kd', h'⟩
    · simp at h
  have htake : ∀ (ys : List Int) (n : Nat), ys.take (min ys.length n) = ys.take n := by
    intro ys n
    rw [Nat.min_comm, ← List.take_take, List.take_length]
  unfold copyA at hk
  split at hk
  · rename_i e id nn hu
    split at hk
    · rename_i g kd xs hb
      rw [gate_some] at hk
      obtain ⟨hg, hk⟩ := hk
      simp only [Bool.and_eq_true] at hg
      obtain ⟨hsm, hi⟩ := hg
      obtain ⟨kd', he⟩ := hint hi
      obtain ⟨ys, hk, hy⟩ := cont_sound hs hz hk
      cases hd with
      | full hI hbase hn hcc hgg =>
        rename_i cap I base
        obtain ⟨J, hJ, ok⟩ := hs.blk _ _ hb
        rw [hI] at hJ
        obtain rfl := Option.some.inj hJ
        obtain ⟨hw, hnn, hgr, hc⟩ := ok.kind
        rw [hnn]
        obtain ⟨w', s1, s2, s3⟩ := patch_sound (kd' := kd) (zs := ys.take (min ys.length xs.length)) (lo := 0) hs hf hb hI (Or.inr rfl) (by simp; omega) P
        have hz2 : xs.take 0 ++ (ys.take (min ys.length xs.length) ++ xs.drop (0 + (ys.take (min ys.length xs.length)).length)) = ys.take xs.length ++ xs.drop (min ys.length xs.length) := by
          rw [List.take_zero, List.nil_append, Nat.zero_add, List.length_take, htake, Nat.min_eq_left (Nat.min_le_left _ _)]
        rw [hz2] at s2 s3
        by_cases h0 : xs.length = 0
        · have hxs : xs = [] := by simpa using h0
          subst hxs
          refine ⟨_, _, _, w, hk, copy_run hu he hsm hy o ts ht ?_, R.int _ _, ?_, ?_⟩
          · cases base with
            | none => rfl
            | some a => simp [storeCells]
          · have : ys.take ([] : List Int).length ++ ([] : List Int).drop (min ys.length ([] : List Int).length) = [] := by simp
            rw [this]
            exact hs.write hb hI (Frm.refl w (fun _ => False)) (fun _ h => h.elim) ok
          · exact Step.same hf (Frm.refl w _) (put_some hb)
        · have hbase' : base = some ⟨I.cb, I.coff, none⟩ := by
            rcases hbase with hbase | ⟨h1, _⟩
            · exact hbase
            · omega
          subst hbase'
          exact ⟨_, _, _, w', hk, copy_run hu he hsm hy o ts ht s1, R.int _ _, s2, s3⟩
    · simp at hk
  · rename_i e id lo n hu
    split at hk
    · rename_i g kd xs hb
      rw [gate_some] at hk
      obtain ⟨hg, hk⟩ := hk
      simp only [Bool.and_eq_true] at hg
      obtain ⟨hsm, hi⟩ := hg
      obtain ⟨kd', he⟩ := hint hi
      obtain ⟨ys, hk, hy⟩ := cont_sound hs hz hk
      rw [chk_some] at hk
      obtain ⟨hln, hk⟩ := hk
      cases hd with
      | sub hI hww hl hcap hbase =>
        rename_i cap I base
        obtain ⟨J, hJ, ok⟩ := hs.blk _ _ hb
        rw [hI] at hJ
        obtain rfl := Option.some.inj hJ
        obtain ⟨hw, hnn, hgr, hc⟩ := ok.kind
        obtain ⟨w', s1, s2, s3⟩ := patch_sound (kd' := kd) (zs := ys.take (min ys.length n)) (lo := lo) hs hf hb hI (Or.inr rfl) (by simp; omega) P
        have hz2 : xs.take lo ++ (ys.take (min ys.length n) ++ xs.drop (lo + (ys.take (min ys.length n)).length)) = xs.take lo ++ (ys.take n ++ xs.drop (lo + min ys.length n)) := by
          rw [List.length_take, htake, Nat.min_eq_left (Nat.min_le_left _ _)]
        rw [hz2] at s2 s3
        by_cases h0 : n = 0
        · subst h0
          refine ⟨_, _, _, w, hk, copy_run hu he hsm hy o ts ht ?_, R.int _ _, ?_, ?_⟩
          · cases base with
            | none => rfl
            | some a => simp [storeCells]
          · have : xs.take lo ++ (ys.take 0 ++ xs.drop (lo + min ys.length 0)) = xs := by simp
            rw [this]
            exact hs.write hb hI (Frm.refl w (fun _ => False)) (fun _ h => h.elim) ok
          · exact Step.same hf (Frm.refl w _) (put_some hb)
        · have hbase' : base = some ⟨I.cb, I.coff + lo * I.w, none⟩ := by
            rcases hbase with hbase | h1
            · exact hbase
            · omega
          subst hbase'
          rw [hw, Nat.mul_one]
          exact ⟨_, _, _, w', hk, copy_run hu he hsm hy o ts ht s1, R.int _ _, s2, s3⟩
    · simp at hk
  · simp at hk

/-- A SLICE THAT IS MADE TO BE READ: new memory, that nobody writes. -/
theorem lit_sound {nx : Nat} {o : Oper} {k : AV → Option Y} (hs : Sim RT E H fp w) (hf : Fresh E nx) (hF : RF RT E F a) (hk : evLit P F o.op k = some y) :
    ∃ v E' u w', k v = some y ∧ (execOp a.eval o).run P w = .ok (.value u) w' ∧ RV RT E' v u ∧ Sim RT E' H fp w' ∧ Step E H fp w nx E' H fp w' nx := by
  unfold evLit at hk
  split at hk
  · rename_i t n parts ho
    split at hk
    · rename_i e hu
      split at hk
      · rename_i z hz
        split at hk
        · rename_i cs hfill
          split at hk
          · rename_i kd he
            split at hk
            · rename_i l hl
              rw [gate_some] at hk
              obtain ⟨hg, hk⟩ := hk
              simp only [Bool.and_eq_true] at hg
              have hp : All2 (fun (p : Nat × AV) (q : Nat × Value) => p.1 = q.1 ∧ RV RT E p.2 q.2) (partsA F parts.toList) (parts.map fun (i, x) => (i, a.eval x)).toList := by
                simpa using parts_sound hF parts.toList
              have hg1 := Nat.eq_of_beq_eq_true hg.1
              have hg2 := Nat.eq_of_beq_eq_true hg.2.1
              have hg3 := Nat.le_of_ble_eq_true hg.2.2
              obtain ⟨hlen, vs, hvs, hrun⟩ := build_run (w := w) hp hu hz hfill (by omega) (by rw [hg1]; omega)
              obtain rfl := intsOf_spec hl
              obtain ⟨hsz, hcell⟩ := ints_cells hvs
              rw [hg1, List.length_map, Nat.mul_one] at hlen
              let E' : Env := ⟨E.info, fun ad => if ad.block = w.heap.size then (w.alloc (.cells vs e)).cell? ad else E.M ad⟩
              have hold : ∀ ad v, E.M ad = some v → ad.block < w.heap.size := fun ad v h => World.block_lt_of_cell? _ _ (hs.ro ad v h).2.1
              have hle : E.Le E' := ⟨fun _ _ h => h, fun ad v h => by simp only [E']; rw [if_neg (Nat.ne_of_lt (hold ad v h))]; exact h⟩
              have hs2 := hs.frm (Frm.alloc w (.cells vs e) (fun _ => False)) (fun _ _ h => h) (fun _ _ _ h => h)
              refine ⟨_, E', .slice (some ⟨w.heap.size, 0, none⟩) n n, w.alloc (.cells vs e), hk, ?_, ?_, ⟨fun id b hb => ?_, hs2.disj, fun ad v h => ?_⟩, ⟨hle, Frm.alloc w (.cells vs e) _, fun x hx _ => hx, Nat.le_refl _, hf, fun ad v h => by
                simp only [E'] at h
                split at h
                · rename_i hbk; exact Or.inr (Or.inl (by omega))
                · exact Or.inl h⟩⟩
              · unfold execOp
                simp only [ho, Sem.run_bind, hrun, Result.andThen_ok, Sem.run_pure]
              · rw [← hlen]
                refine R.roi (Nat.le_refl _) fun i hi => ⟨_, rfl, rfl, ?_⟩
                simp only [E', if_true, Nat.zero_add, cells_alloc]
                exact hcell i hi
              · obtain ⟨I, hI, ok⟩ := hs2.blk id b hb
                exact ⟨I, hI, ok.mono hle⟩
              · simp only [E'] at h
                split at h
                · rename_i hbk
                  refine ⟨?_, h, fun i b hb hfx => ?_⟩
                  · cases hsp : ad.spot with
                    | none => rfl
                    | some z => unfold World.cell? at h; split at h <;> simp [hsp] at h
                  · have := hs.cell_lt hb hfx
                    simp only at this
                    omega
                · exact hs2.ro ad v h
            · simp at hk
          · simp at hk
        · simp at hk
      · simp at hk
    · simp at hk
  · simp at hk

end Go.Eng
