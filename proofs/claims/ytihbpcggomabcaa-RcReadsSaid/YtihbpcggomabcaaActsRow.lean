/-
  How a list of calls (chapter 3's statements) reads.
  Conditions: none.
-/
import Derived.Test.YtihbpcggomabcaaSeatFacts
import Derived.Test.YtihbpcggomabcaaRcLaws
set_option linter.unusedSimpArgs false
set_option linter.unusedVariables false
namespace Go.Proofs.Ytihbpcggomabcaa.row
open Go.ChangeShapes Go.WideShapes Go.ChangeAt Go.RowKit Go.Eng
set_option maxRecDepth 100000
variable {H : Type} {enc : TypeId × Value → H} {W : World} {base : Nat} {spare : Nat → Bool} {held : Bool} {RT : RoTab}

instance : Inhabited Rc.Act3 := ⟨Rc.Act3.nil⟩

structure Act3.Wf (a : Rc.Act3) : Prop where
  op : WfI .i64 a.op
  n : WfI .i64 a.n
  m : WfI .i64 a.m
  t : WfL .i64 a.t

theorem cells30 : Try.prog.cellsOf 30 = 4 := by kernel_rfl
theorem cells3 : Try.prog.cellsOf 3 = 1 := by kernel_rfl
theorem cells27 : Try.prog.cellsOf 27 = 1 := by kernel_rfl

/-- What the list's text is. -/
def actD (d : DataW H) (a : Rc.Act3) : Prop := ∃ d0 d1 d2 d3, d = .agg [d0, d1, d2, d3] ∧ ((d3 = .nil ∧ a.t = []) ∨ ∃ sp, d3 = .slice (a.t.map fun n => .lit (.int .i64 n)) sp)

theorem rd_act3 {n : Nat} {cs : List Value} {x : DataW H × List MemPlace} (h : DataW.trod enc Try.prog W base spare held n 30 cs = some x) :
    ∃ (a : Rc.Act3) (vt : Value), cs = [.int .i64 a.op, .int .i64 a.n, .int .i64 a.m, vt] ∧ Act3.Wf a ∧ (∀ RT, R RT (lawE W) (.roi .i64 a.t) vt) ∧ actD x.1 a := by
  obtain ⟨xs, m, _, rfl, hlen, hxl, hf⟩ := DataW.trod_struct Try.underlying30 h
  rw [cells30] at hlen
  match cs, hlen with
  | [c0, c1, c2, c3], _ =>
    have f0 := hf 0 { name := "Op", type := 3, offset := 0, embedded := false, tag := "", pkgPath := "", byteOffset := 0 } rfl
    have f1 := hf 1 { name := "N", type := 3, offset := 1, embedded := false, tag := "", pkgPath := "", byteOffset := 8 } rfl
    have f2 := hf 2 { name := "M", type := 3, offset := 2, embedded := false, tag := "", pkgPath := "", byteOffset := 16 } rfl
    have f3 := hf 3 { name := "T", type := 27, offset := 3, embedded := false, tag := "", pkgPath := "", byteOffset := 24 } rfl
    simp only [cells3, cells27, List.drop_zero, List.take_succ_cons, List.take_zero, List.drop_succ_cons] at f0 f1 f2 f3
    have hxl : xs.length = 4 := hxl
    match xs, hxl with
    | [x0, x1, x2, x3], _ =>
      simp only [List.getElem?_cons_zero, List.getElem?_cons_succ] at f0 f1 f2 f3
      obtain ⟨n0, e0, rfl, w0⟩ := DataW.trod_int Try.underlying3 f0
      obtain ⟨n1, e1, rfl, w1⟩ := DataW.trod_int Try.underlying3 f1
      obtain ⟨n2, e2, rfl, w2⟩ := DataW.trod_int Try.underlying3 f2
      simp only [List.cons.injEq, and_true] at e0 e1 e2
      subst e0 e1 e2
      obtain ⟨vt, t, e3, hr, hw, hd⟩ := rd_ints (RT := noRT) Try.underlying27 Try.underlying3 cells3 f3
      have hr' : ∀ RT, R RT (lawE W) (.roi .i64 t) vt := fun RT => by
        obtain ⟨vt', t', e3', hr', hw', hd'⟩ := rd_ints (RT := RT) Try.underlying27 Try.underlying3 cells3 f3
        have ev : vt' = vt := by
          rw [e3] at e3'
          simpa using e3'.symm
        subst ev
        have : t' = t := by
          rcases hd with ⟨g1, g2⟩ | ⟨sp, g1⟩ <;> rcases hd' with ⟨k1, k2⟩ | ⟨sp', k1⟩
          · rw [g2, k2]
          · rw [g1] at k1; simp at k1
          · rw [g1] at k1; simp at k1
          · rw [g1] at k1
            simp only [DataW.slice.injEq] at k1
            have := k1.1
            have inj : ∀ a b : List Int, a.map (fun n => (DataW.lit (Lit.int .i64 n) : DataW H)) = b.map (fun n => DataW.lit (Lit.int .i64 n)) → b = a := by
              intro a
              induction a with
              | nil => intro b hb; cases b with
                | nil => rfl
                | cons y ys => simp at hb
              | cons z zs ih => intro b hb; cases b with
                | nil => simp at hb
                | cons y ys =>
                  simp only [List.map_cons, List.cons.injEq, DataW.lit.injEq, Lit.int.injEq, true_and] at hb
                  rw [hb.1, ih ys hb.2]
            exact inj _ _ this
        rw [this] at hr'
        exact hr'
      simp only [List.cons.injEq, and_true] at e3
      subst e3
      exact ⟨⟨n0, n1, n2, t⟩, c3, rfl, ⟨w0, w1, w2, hw⟩, hr', _, _, _, _, rfl, hd⟩

theorem rd_acts3 {fuel : Nat} {cs : List Value} {x : DataW H × List MemPlace} (h : DataW.trod enc Try.prog W base spare held fuel 23 cs = some x) :
    ∃ v acts, cs = [v] ∧ R (Rc.actTabK acts) (lawE W) (.ror 0) v ∧ (∀ a ∈ acts, Act3.Wf a) ∧
      ((x.1 = .nil ∧ acts = []) ∨ ∃ ds sp, x.1 = .slice ds sp ∧ ∀ a ∈ acts, ∃ d ∈ ds, actD d a) := by
  rcases rd_elems Try.underlying23 h with ⟨rfl, hx⟩ | ⟨a, len, cap, u, D, n, sp, rfl, hl, hx, hu⟩
  · exact ⟨_, [], rfl, R.ror (T := ⟨0, 4, _⟩) (base := none) (cap := 0) (fun _ _ => undef) rfl (Nat.le_refl _) (fun i j hi => absurd hi (by simp)) (fun i j hi => absurd hi (by simp)), fun a ha => by simp at ha, Or.inl ⟨hx, rfl⟩⟩
  · rw [cells30] at hu
    obtain ⟨A, hA⟩ := Deep.choose_lt (α := Rc.Act3) (n := len) (p := fun i a => ∃ vt, u i = [.int .i64 a.op, .int .i64 a.n, .int .i64 a.m, vt] ∧ Act3.Wf a ∧ (∀ RT, R RT (lawE W) (.roi .i64 a.t) vt) ∧ actD (D i).1 a) (fun i hi => by
      obtain ⟨a, vt, h1, h2, h3, h4⟩ := rd_act3 (hu i hi).2.2
      exact ⟨a, vt, h1, h2, h3, h4⟩)
    have hlen : ((List.range len).map A).length = len := by simp
    have hget : ∀ i, i < len → ((List.range len).map A).getD i Rc.Act3.nil = A i := fun i hi => by simp [List.getD_eq_getElem?_getD, hi]
    refine ⟨_, (List.range len).map A, rfl, ?_, fun a ha => ?_, Or.inr ⟨_, _, hx, fun a ha => ?_⟩⟩
    · have := ror_mk (RT := Rc.actTabK ((List.range len).map A)) (tag := 0) (T := ⟨((List.range len).map A).length, 4, _⟩) (a := a) (cap := cap) (w := 4) (u := u) (W := W) rfl rfl (by simpa using hl)
        (fun i hi => ⟨(hu i (by simpa using hi)).1, (hu i (by simpa using hi)).2.1⟩) (fun i j v hi hv => by
          have hi' : i < len := by simpa using hi
          obtain ⟨vt, h1, _, h3, _⟩ := hA i hi'
          simp only [hget i hi']
          rw [h1] at hv
          match j with
          | 0 => simp only [List.getElem?_cons_zero, Option.some.injEq] at hv; subst hv; exact R.int _ _
          | 1 => simp only [List.getElem?_cons_zero, List.getElem?_cons_succ, Option.some.injEq] at hv; subst hv; exact R.int _ _
          | 2 => simp only [List.getElem?_cons_zero, List.getElem?_cons_succ, Option.some.injEq] at hv; subst hv; exact R.int _ _
          | 3 => simp only [List.getElem?_cons_zero, List.getElem?_cons_succ, Option.some.injEq] at hv; subst hv; exact h3 _
          | j + 4 => simp at hv)
      rw [hlen] at this
      exact this
    · obtain ⟨i, hi, rfl⟩ := List.mem_map.1 ha
      obtain ⟨vt, h1, h2, _⟩ := hA i (by simpa using hi)
      exact h2
    · obtain ⟨i, hi, rfl⟩ := List.mem_map.1 ha
      obtain ⟨vt, h1, _, _, h4⟩ := hA i (by simpa using hi)
      exact ⟨(D i).1, List.mem_map.2 ⟨i, hi, rfl⟩, h4⟩
end Go.Proofs.Ytihbpcggomabcaa.row
