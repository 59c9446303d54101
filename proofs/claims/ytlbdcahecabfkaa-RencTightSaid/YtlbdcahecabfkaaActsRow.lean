/-
  How a list of calls reads.
  Conditions: none.
-/
import Derived.Test.YtlbdcahecabfkaaSeatFacts
import Derived.Test.YtlbdcahecabfkaaRencLaws
import Derived.SizedLaws
set_option linter.unusedSimpArgs false
set_option linter.unusedVariables false
namespace Go.Proofs.Ytlbdcahecabfkaa.row
open Go.ChangeShapes Go.WideShapes Go.ChangeAt Go.RowKit Go.Eng
set_option maxRecDepth 100000
variable {H : Type} {enc : TypeId × Value → H} {W : World} {base : Nat} {spare : Nat → Bool} {held : Bool} {RT : RoTab}
def noRT0 : RoTab := fun _ => none
theorem lits_inj {H : Type} : ∀ a b : List Int, a.map (fun n => (DataW.lit (Lit.int .i64 n) : DataW H)) = b.map (fun n => DataW.lit (Lit.int .i64 n)) → b = a
  | [], [], _ => rfl
  | [], y :: ys, h => by simp at h
  | z :: zs, [], h => by simp at h
  | z :: zs, y :: ys, h => by
    simp only [List.map_cons, List.cons.injEq, DataW.lit.injEq, Lit.int.injEq, true_and] at h
    rw [h.1, lits_inj zs ys h.2]
instance : Inhabited Rc.Act4 := ⟨Rc.Act4.nil⟩
structure Act4.Wf (a : Rc.Act4) : Prop where
  op : WfI .i64 a.op
  v : WfI .i64 a.v
  n : WfI .i64 a.n
  m : WfI .i64 a.m
  t : WfL .i64 a.t
theorem cellsS : Try.prog.cellsOf 32 = 5 := by kernel_rfl
theorem cellsI : Try.prog.cellsOf 3 = 1 := by kernel_rfl
theorem cellsL : Try.prog.cellsOf 26 = 1 := by kernel_rfl
/-- What the list's text is. -/
def actD (d : DataW H) (a : Rc.Act4) : Prop := ∃ d0 d1 d2 d3 d4, d = .agg [d0, d1, d2, d3, d4] ∧ ((d4 = .nil ∧ a.t = []) ∨ ∃ sp, d4 = .slice (a.t.map fun n => .lit (.int .i64 n)) sp)
theorem rd_act {n : Nat} {cs : List Value} {x : DataW H × List MemPlace} (h : DataW.trod enc Try.prog W base spare held n 32 cs = some x) :
    ∃ (a : Rc.Act4) (vt : Value), cs = [.int .i64 a.op, .int .i64 a.v, .int .i64 a.n, .int .i64 a.m, vt] ∧ Act4.Wf a ∧ (∀ RT, R RT (lawE W) (.roi .i64 a.t) vt) ∧ actD x.1 a := by
  obtain ⟨xs, m, _, rfl, hlen, hxl, hf⟩ := DataW.trod_struct Try.underlying32 h
  rw [cellsS] at hlen
  match cs, hlen with
  | [c0, c1, c2, c3, c4], _ =>
    have f0 := hf 0 { name := "Op", type := 3, offset := 0, embedded := false, tag := "", pkgPath := "", byteOffset := 0 } rfl
    have f1 := hf 1 { name := "V", type := 3, offset := 1, embedded := false, tag := "", pkgPath := "", byteOffset := 8 } rfl
    have f2 := hf 2 { name := "N", type := 3, offset := 2, embedded := false, tag := "", pkgPath := "", byteOffset := 16 } rfl
    have f3 := hf 3 { name := "M", type := 3, offset := 3, embedded := false, tag := "", pkgPath := "", byteOffset := 24 } rfl
    have f4 := hf 4 { name := "T", type := 26, offset := 4, embedded := false, tag := "", pkgPath := "", byteOffset := 32 } rfl
    simp only [cellsI, cellsL, List.drop_zero, List.take_succ_cons, List.take_zero, List.drop_succ_cons] at f0 f1 f2 f3 f4
    have hxl : xs.length = 5 := hxl
    match xs, hxl with
    | [x0, x1, x2, x3, x4], _ =>
      simp only [List.getElem?_cons_zero, List.getElem?_cons_succ] at f0 f1 f2 f3 f4
      obtain ⟨n0, e0, rfl, w0⟩ := DataW.trod_int Try.underlying3 f0
      obtain ⟨n1, e1, rfl, w1⟩ := DataW.trod_int Try.underlying3 f1
      obtain ⟨n2, e2, rfl, w2⟩ := DataW.trod_int Try.underlying3 f2
      obtain ⟨n3, e3, rfl, w3⟩ := DataW.trod_int Try.underlying3 f3
      simp only [List.cons.injEq, and_true] at e0 e1 e2 e3
      subst e0 e1 e2 e3
      obtain ⟨vt, t, e4, hr, hw, hd⟩ := rd_ints (RT := noRT0) Try.underlying26 Try.underlying3 cellsI f4
      have hr' : ∀ RT, R RT (lawE W) (.roi .i64 t) vt := fun RT => by
        obtain ⟨vt', t', e', hr', hw', hd'⟩ := rd_ints (RT := RT) Try.underlying26 Try.underlying3 cellsI f4
        have ev : vt' = vt := by
          rw [e4] at e'
          simpa using e'.symm
        subst ev
        have : t' = t := by
          rcases hd with ⟨g1, g2⟩ | ⟨sp, g1⟩ <;> rcases hd' with ⟨k1, k2⟩ | ⟨sp', k1⟩
          · rw [g2, k2]
          · rw [g1] at k1; simp at k1
          · rw [g1] at k1; simp at k1
          · rw [g1] at k1
            simp only [DataW.slice.injEq] at k1
            exact lits_inj _ _ k1.1
        rw [this] at hr'
        exact hr'
      simp only [List.cons.injEq, and_true] at e4
      subst e4
      exact ⟨⟨n0, n1, n2, n3, t⟩, c4, rfl, ⟨w0, w1, w2, w3, hw⟩, hr', _, _, _, _, _, rfl, hd⟩
theorem rd_acts {fuel : Nat} {cs : List Value} {x : DataW H × List MemPlace} (h : DataW.trod enc Try.prog W base spare held fuel 22 cs = some x) :
    ∃ v acts, cs = [v] ∧ R (Rc.actTabK acts) (lawE W) (.ror 0) v ∧ (∀ a ∈ acts, Act4.Wf a) ∧
      ((x.1 = .nil ∧ acts = []) ∨ ∃ ds sp, x.1 = .slice ds sp ∧ ∀ a ∈ acts, ∃ d ∈ ds, actD d a) := by
  rcases rd_elems Try.underlying22 h with ⟨rfl, hx⟩ | ⟨a, len, cap, u, D, n, sp, rfl, hl, hx, hu⟩
  · exact ⟨_, [], rfl, R.ror (T := ⟨0, 5, _⟩) (base := none) (cap := 0) (fun _ _ => undef) rfl (Nat.le_refl _) (fun i j hi => absurd hi (by simp)) (fun i j hi => absurd hi (by simp)), fun a ha => by simp at ha, Or.inl ⟨hx, rfl⟩⟩
  · rw [cellsS] at hu
    obtain ⟨A, hA⟩ := Deep.choose_lt (α := Rc.Act4) (n := len) (p := fun i a => ∃ vt, u i = [.int .i64 a.op, .int .i64 a.v, .int .i64 a.n, .int .i64 a.m, vt] ∧ Act4.Wf a ∧ (∀ RT, R RT (lawE W) (.roi .i64 a.t) vt) ∧ actD (D i).1 a) (fun i hi => by
      obtain ⟨a, vt, h1, h2, h3, h4⟩ := rd_act (hu i hi).2.2
      exact ⟨a, vt, h1, h2, h3, h4⟩)
    have hlen : ((List.range len).map A).length = len := by simp
    have hget : ∀ i, i < len → ((List.range len).map A).getD i Rc.Act4.nil = A i := fun i hi => by simp [List.getD_eq_getElem?_getD, hi]
    refine ⟨_, (List.range len).map A, rfl, ?_, fun a ha => ?_, Or.inr ⟨_, _, hx, fun a ha => ?_⟩⟩
    · have := ror_mk (RT := (Rc.actTabK ((List.range len).map A))) (tag := 0) (T := ⟨((List.range len).map A).length, 5, _⟩) (a := a) (cap := cap) (w := 5) (u := u) (W := W) rfl rfl (by simpa using hl)
        (fun i hi => ⟨(hu i (by simpa using hi)).1, (hu i (by simpa using hi)).2.1⟩) (fun i j v hi hv => by
          have hi' : i < len := by simpa using hi
          obtain ⟨vt, h1, _, h3, _⟩ := hA i hi'
          simp only [hget i hi']
          rw [h1] at hv
          match j with
          | 0 => simp only [List.getElem?_cons_zero, Option.some.injEq] at hv; subst hv; exact R.int _ _
          | 1 => simp only [List.getElem?_cons_zero, List.getElem?_cons_succ, Option.some.injEq] at hv; subst hv; exact R.int _ _
          | 2 => simp only [List.getElem?_cons_zero, List.getElem?_cons_succ, Option.some.injEq] at hv; subst hv; exact R.int _ _
          | 3 => simp only [List.getElem?_cons_zero, List.getElem?_cons_succ, Option.some.injEq] at hv; subst hv; exact R.int _ _
          | 4 => simp only [List.getElem?_cons_zero, List.getElem?_cons_succ, Option.some.injEq] at hv; subst hv; exact h3 _
          | j + 5 => simp at hv)
      rw [hlen] at this
      exact this
    · obtain ⟨i, hi, rfl⟩ := List.mem_map.1 ha
      obtain ⟨vt, h1, h2, _⟩ := hA i (by simpa using hi)
      exact h2
    · obtain ⟨i, hi, rfl⟩ := List.mem_map.1 ha
      obtain ⟨vt, h1, _, _, h4⟩ := hA i (by simpa using hi)
      exact ⟨(D i).1, List.mem_map.2 ⟨i, hi, rfl⟩, h4⟩
theorem weightsAll_mem {P : Program} {e : TypeId} : ∀ {l : List (DataW H)} {d : DataW H}, d ∈ l → ∀ n ∈ d.weights P e, n ∈ DataW.weightsAll P e l
  | x :: r, d, hd, n, hn => by
    simp only [DataW.weightsAll, List.mem_append]
    rcases List.mem_cons.1 hd with rfl | hd
    · exact Or.inl hn
    · exact Or.inr (weightsAll_mem hd n hn)

theorem acts_reach {ts : List TypeId} {ds : List (DataW H)} (h : (DataW.weightsEach Try.prog ts ds).all (· ≤ reachBytes) = true) {j : Nat} {d : DataW H} (ht : ts[j]? = some 22) (hd : ds[j]? = some d) {acts : List Rc.Act4}
    (hx : (d = .nil ∧ acts = []) ∨ ∃ es sp, d = .slice es sp ∧ ∀ a ∈ acts, ∃ d ∈ es, actD d a) : ∀ a ∈ acts, a.t.length ≤ 17592186043904 := by
  intro a ha
  rcases hx with ⟨_, rfl⟩ | ⟨es, sp, rfl, hx⟩
  · simp at ha
  obtain ⟨e, he, d0, d1, d2, d3, d4, rfl, ht3⟩ := hx a ha
  rcases ht3 with ⟨_, h0⟩ | ⟨sp3, rfl⟩
  · simp [h0]
  have m : (a.t.length + sp3.length) * Try.prog.bytesOf 3 ∈ DataW.weightsEach Try.prog ts ds := by
    refine DataW.weights_mem_each ht hd _ ?_
    simp only [DataW.weights, Try.underlying22]
    refine List.mem_cons_of_mem _ (List.mem_append_left _ (weightsAll_mem he _ ?_))
    simp [DataW.weights, DataW.weightsEach, Try.underlying32, Try.underlying26]
  have h8 := of_decide_eq_true (List.all_eq_true.1 h _ m)
  have b3 : Try.prog.bytesOf 3 = 8 := by kernel_rfl
  rw [b3] at h8
  simp only [reachBytes] at h8
  omega
end Go.Proofs.Ytlbdcahecabfkaa.row
