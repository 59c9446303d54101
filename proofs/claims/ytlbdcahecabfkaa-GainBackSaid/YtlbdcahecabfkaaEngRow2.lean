/-
  The engine, part sixteen: structs of two whole numbers among a law's arguments.
  Conditions: none; nothing is claimed of the program here.
-/
import Derived.Test.YtlbdcahecabfkaaEngRow
import Derived.Lib.SmallJoins
set_option linter.unusedSimpArgs false
set_option linter.unusedVariables false
namespace Go.Eng
open Go.ChangeShapes Go.Joins Go.WideShapes Go.RowKit Go.Deep Go.WideElems
variable {H : Type} {enc : TypeId × Value → H} {P : Program} {w : World} {base : Nat} {spare : Nat → Bool} {held : Bool} {RT : RoTab} {E : Env}

theorem open_ints2 {r : Reach} {b0 : Nat} {t : TypeId} {f0 f1 : Field} {k0 k1 : IntKind} {v : Value} {d : DataW H} {p : List MemPlace} (hs : P.underlying t = some (.struct #[f0, f1])) (hone : oneCellFields P #[f0, f1] = true) (hC : P.cellsOf t = 2)
    (h0 : P.underlying f0.type = some (.int k0)) (h1 : P.underlying f1.type = some (.int k1)) (hv : Value.okWide P w r b0 t v) (h : DataW.Trod enc P w base spare held t v d p) :
    ∃ a b, v = .agg #[.int k0 a, .int k1 b] ∧ d = .agg [.lit (.int k0 a), .lit (.int k1 b)] ∧ p = [] ∧ WfI k0 a ∧ WfI k1 b := by
  obtain ⟨v0, v1, y0, y1, n, rfl, rfl, rfl, t0, t1⟩ := open_agg2 hs hone hC hv h
  obtain ⟨n0, e0, rfl, w0⟩ := DataW.trod_int h0 t0
  obtain ⟨n1, e1, rfl, w1⟩ := DataW.trod_int h1 t1
  simp only [List.cons.injEq, and_true] at e0 e1
  subst e0 e1
  exact ⟨n0, n1, rfl, rfl, rfl, w0, w1⟩

theorem shut_ints2 {t : TypeId} {f0 f1 : Field} {k0 k1 : IntKind} {a b : Int} (hs : P.underlying t = some (.struct #[f0, f1])) (hone : oneCellFields P #[f0, f1] = true) (hC : P.cellsOf t = 2)
    (h0 : P.underlying f0.type = some (.int k0)) (h1 : P.underlying f1.type = some (.int k1)) (w0 : WfI k0 a) (w1 : WfI k1 b) :
    DataW.Trod enc P w base spare held t (.agg #[.int k0 a, .int k1 b]) (.agg [.lit (.int k0 a), .lit (.int k1 b)]) [] := by
  have w0' : (Lit.int k0 a).wf = true := w0
  have w1' : (Lit.int k1 b).wf = true := w1
  have := shut_agg2 (enc := enc) (w := w) (base := base) (spare := spare) (held := held) (v0 := .int k0 a) (v1 := .int k1 b) (y0 := (.lit (.int k0 a), [])) (y1 := (.lit (.int k1 b), [])) hs hone hC ⟨1, by simp [DataW.trod, h0, w0']⟩ ⟨1, by simp [DataW.trod, h1, w1']⟩
  simpa using this

theorem rv_ints2 (k0 k1 : IntKind) (a b : Int) : RV RT E (.agg [.int k0 a, .int k1 b]) (.agg #[.int k0 a, .int k1 b]) :=
  ⟨_, rfl, rfl, fun j x hj => by
    match j with
    | 0 => simp at hj; subst hj; exact R.int _ _
    | 1 => simp at hj; subst hj; exact R.int _ _
    | j + 2 => simp at hj⟩

end Go.Eng
