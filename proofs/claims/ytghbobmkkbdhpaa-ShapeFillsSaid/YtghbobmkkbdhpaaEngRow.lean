/-
  The engine, part fifteen: what a law's arguments read as, and the row's end.
  Conditions: none; nothing is claimed of the program here.
-/
import Derived.Test.YtghbobmkkbdhpaaEngFn
import Derived.WalkKit
import Derived.ProofKit
import Derived.OpenShut
import Derived.ShutString
import Derived.ChangeOld
import Derived.Below
import Derived.SizedLaws
import Derived.Deep.Slices
set_option linter.unusedSimpArgs false
set_option linter.unusedVariables false
namespace Go.Eng
variable {H : Type} {enc : TypeId × Value → H} {P : Program} {W : World} {base : Nat} {spare : Nat → Bool} {held : Bool} {RT : RoTab}

/-- A whole number of its kind. -/
def WfI (k : IntKind) (n : Int) : Prop := (Lit.int k n).wf = true
def WfL (k : IntKind) (l : List Int) : Prop := ∀ n ∈ l, WfI k n

theorem WfI.bounds {k : IntKind} {n : Int} (h : WfI k n) : k.min ≤ n ∧ n ≤ k.max := by
  simpa [WfI, Lit.wf] using h

theorem lawE_M {w : World} {a : Addr} (h : a.spot = none) : (lawE w).M a = w.cell? a := by simp only [lawE, h]

theorem cell_spot {w : World} {a : Addr} {v : Value} (h : w.cell? a = some v) : a.spot = none := by
  cases hs : a.spot with
  | none => rfl
  | some s =>
    unfold World.cell? at h
    split at h
    · simp [hs] at h
    · simp at h

theorem add_none {a : Addr} (h : a.spot = none) (n : Nat) : a.add n = ⟨a.block, a.off + n, none⟩ := by
  obtain ⟨b, o, s⟩ := a
  simp only at h
  subst h
  unfold Addr.add
  split
  · rename_i h; simp [h]
  · rfl

theorem law_cell {w : World} {a : Addr} {n : Nat} {v v0 : Value} (h0 : w.cell? (a.add 0) = some v0) (h : w.cell? (a.add n) = some v) : a.spot = none ∧ (lawE w).M ⟨a.block, a.off + n, none⟩ = some v := by
  have hs : a.spot = none := cell_spot (by simpa [Addr.add] using h0)
  refine ⟨hs, ?_⟩
  rw [lawE_M rfl, ← add_none hs n]
  exact h

/-- A slice of whole numbers. -/
theorem rd_ints {t e : TypeId} {k : IntKind} {fuel : Nat} {cs : List Value} {x : DataW H × List MemPlace} (ht : P.underlying t = some (.slice e)) (he : P.underlying e = some (.int k)) (hc : P.cellsOf e = 1)
    (h : DataW.trod enc P W base spare held fuel t cs = some x) : ∃ v xs, cs = [v] ∧ R RT (lawE W) (.roi k xs) v ∧ WfL k xs ∧
      ((x.1 = .nil ∧ xs = []) ∨ ∃ sp, x.1 = .slice (xs.map fun n => .lit (.int k n)) sp) := by
  rcases ChangeShapes.open_ints ht he hc h with ⟨rfl, rfl⟩ | ⟨a, len, cap, zs, rfl, _, hl, _, hz, rfl, hcell, hw⟩
  · exact ⟨_, [], rfl, R.roi (xs := []) (base := none) (cap := 0) (Nat.le_refl _) (fun i hi => by simp at hi), fun n hn => by simp at hn, Or.inl ⟨rfl, rfl⟩⟩
  · have hlen : (zs.take len).length = len := by
      rw [List.length_take, hz]
      split <;> omega
    have hle : len ≤ zs.length := by rw [hz]; split <;> omega
    refine ⟨_, zs.take len, rfl, ?_, fun n hn => hw n (List.mem_of_mem_take hn), Or.inr ⟨_, rfl⟩⟩
    have := R.roi (RT := RT) (E := lawE W) (k := k) (xs := zs.take len) (base := some a) (cap := cap) (by omega) (fun i hi => by
      rw [hlen] at hi
      obtain ⟨h1, h2⟩ := law_cell (hcell 0 (by omega)) (hcell i (by omega))
      refine ⟨a, rfl, h1, ?_⟩
      rw [h2]
      simp [List.getD_eq_getElem?_getD, List.getElem?_take_of_lt hi])
    rw [hlen] at this
    exact this

/-- A slice of elements of several cells. -/
theorem rd_elems {t e : TypeId} {fuel : Nat} {cs : List Value} {x : DataW H × List MemPlace} (ht : P.underlying t = some (.slice e))
    (h : DataW.trod enc P W base spare held fuel t cs = some x) :
    (cs = [.slice none 0 0] ∧ x.1 = .nil) ∨ ∃ (a : Addr) (len cap : Nat) (u : Nat → List Value) (D : Nat → DataW H × List MemPlace) (n : Nat) (sp : List (DataW H)), cs = [.slice (some a) len cap] ∧ len ≤ cap ∧ x.1 = .slice ((List.range len).map fun i => (D i).1) sp ∧
      ∀ i, i < len → (u i).length = P.cellsOf e ∧ (∀ j, j < P.cellsOf e → ∃ v, (u i)[j]? = some v ∧ a.spot = none ∧ (lawE W).M ⟨a.block, a.off + (i * P.cellsOf e + j), none⟩ = some v) ∧
        DataW.trod enc P W base spare held n e (u i) = some (D i) := by
  rcases Deep.open_slice ht h with ⟨rfl, rfl⟩ | ⟨a, len, cap, m, n, D, Pl, rfl, _, hl, _, hm, rfl, hx⟩
  · exact Or.inl ⟨rfl, rfl⟩
  · right
    have hle : len ≤ m := by rw [hm]; split <;> omega
    obtain ⟨u, hu⟩ := Deep.choose_lt (α := List Value) (n := m) (p := fun i c => W.cells? base (a.add (i * P.cellsOf e)) (P.cellsOf e) = some c ∧ DataW.trod enc P W base spare held n e c = some (D i, Pl i)) hx
    refine ⟨a, len, cap, u, fun i => (D i, Pl i), n, _, rfl, hl, rfl, fun i hi => ?_⟩
    obtain ⟨h1, h2⟩ := hu i (by omega)
    obtain ⟨_, h3, h4⟩ := World.cells?_some h1
    refine ⟨h3, fun j hj => ?_, h2⟩
    have h5 := h4 j hj
    rw [List.getElem?_eq_getElem (by omega)] at h5
    refine ⟨_, List.getElem?_eq_getElem (by omega), ?_⟩
    have hs' : a.spot = none := by
      obtain ⟨k1, _⟩ := hu 0 (by omega)
      obtain ⟨_, k3, k4⟩ := World.cells?_some k1
      have k5 := k4 0 (by omega)
      rw [List.getElem?_eq_getElem (by omega)] at k5
      exact cell_spot (by simpa [Addr.add] using k5)
    refine ⟨hs', ?_⟩
    rw [add_none hs', add_none rfl] at h5
    rw [lawE_M rfl, ← Nat.add_assoc]
    exact h5

/-- A row of such elements, under a table. -/
theorem ror_mk {tag : Nat} {T : RoT} {a : Addr} {cap w : Nat} {u : Nat → List Value} (hT : RT tag = some T) (hw : T.w = w) (hc : T.n ≤ cap)
    (hu : ∀ i, i < T.n → (u i).length = w ∧ (∀ j, j < w → ∃ v, (u i)[j]? = some v ∧ a.spot = none ∧ (lawE W).M ⟨a.block, a.off + (i * w + j), none⟩ = some v))
    (hr : ∀ i j v, i < T.n → (u i)[j]? = some v → R RT (lawE W) (T.f i j) v) : R RT (lawE W) (.ror tag) (.slice (some a) T.n cap) := by
  subst hw
  refine R.ror (fun i j => (u i).getD j undef) hT hc (fun i j hi hj => ?_) (fun i j hi hj => ?_)
  · obtain ⟨v, h1, h2, h3⟩ := (hu i hi).2 j hj
    exact ⟨a, rfl, h2, by rw [h3, List.getD_eq_getElem?_getD, h1]; rfl⟩
  · obtain ⟨v, h1, _, _⟩ := (hu i hi).2 j hj
    have := hr i j v hi h1
    rwa [List.getD_eq_getElem?_getD, h1]

theorem Frm.below {w w' : World} (h : Frm w (fun _ => False) w') : RowKit.Below w.heap.size w w' where
  os := h.os
  tape := h.tape
  output := h.output
  size := h.size
  block := fun k hk => by
    cases hb : w.heap[k]? with
    | none => simp [Array.getElem?_eq_none_iff] at hb; omega
    | some o =>
      cases o with
      | cells c t fz =>
        obtain ⟨c', h1, h2, h3⟩ := h.cells k c t fz hb
        rw [h1]
        have : c' = c := by
          apply Array.ext_getElem?
          intro i
          exact h3 i (fun h => h)
        rw [this]
      | _ => exact h.other k _ hb (by simp)

end Go.Eng
