/-
  The engine, part sixteen: what the head of a cut says, in few steps for the kernel.
  Conditions: none; nothing is claimed of the program here.
-/
import Derived.Test.YtlbdcahecabfkaaEngRow
import Derived.JoinedOf
set_option linter.unusedSimpArgs false
set_option linter.unusedVariables false
namespace Go.Eng
/-- A head's words, one sign after the other. -/
def fastW : List Char → List Char → List (List Char)
  | [], acc => [acc.reverse]
  | ' ' :: r, acc => acc.reverse :: fastW r []
  | c :: r, acc => fastW r (c :: acc)

theorem fastW_spec : ∀ (l acc : List Char), ∃ w ws, wordsSigns l = w :: ws ∧ fastW l acc = (acc.reverse ++ w) :: ws
  | [], acc => ⟨[], [], by simp [wordsSigns], by simp [fastW]⟩
  | c :: r, acc => by
    by_cases hc : c = ' '
    · subst hc
      obtain ⟨w, ws, h1, h2⟩ := fastW_spec r []
      refine ⟨[], w :: ws, by rw [wordsSigns, h1], ?_⟩
      rw [fastW, h2]
      simp
    · obtain ⟨w, ws, h1, h2⟩ := fastW_spec r (c :: acc)
      refine ⟨c :: w, ws, ?_, ?_⟩
      · rw [wordsSigns, h1]
        exact fun h => hc h
      · rw [fastW, h2]
        · simp
        · exact fun h => hc h

theorem wordsSigns_eq (l : List Char) : wordsSigns l = fastW l [] := by
  obtain ⟨w, ws, h1, h2⟩ := fastW_spec l []
  rw [h1, h2]
  simp

theorem mayEnter_cut {P : Program} {rest : List (List Char)} (hb : behindMainWord (wordsSigns P.initOrder.toList) = "cut".toList :: rest) (h : stripLifts liftWords ("cut".toList :: rest) = ([], "cut".toList :: rest)) (h1 : P.laysLater = false) (h2 : P.bearsReflect = false) (h3 : P.doorFits [] = true) : P.mayEnter = true := by
  unfold Program.mayEnter
  simp only [hb, h, h1, h2, h3]
  simp
/-- What makes it. -/
theorem make_of (P : Program) {rest : List (List Char)} (h : behindMainWord (wordsSigns P.initOrder.toList) = "cut".toList :: rest) : P.make = some .cut := by
  unfold Program.make
  rw [h]
  simp

theorem liftsFinal_of (P : Program) {rest : List (List Char)} (h : behindMainWord (wordsSigns P.initOrder.toList) = "cut".toList :: rest) (h2 : stripLifts liftWords ("cut".toList :: rest) = ([], "cut".toList :: rest)) : P.liftsFinal = false := by
  unfold Program.liftsFinal Program.headLifts
  simp only [h, h2]
  simp

/-- What a row of a law asks, one by one. -/
theorem facts_mk {P : Program} {f : FuncId} {fn : Func} {s : ChangeSpec} {c : OpenClaim} (k1 : c.wf (OpenSpec.ofChange s) = true) (k2 : laidOutB P = true) (k3 : mapsRowed P = true)
    (k4 : fn.params.all (P.readableRec ·) = true) (k5 : namedTie P c.named s.vars = true) (k6 : (c.stops == []) = true) (k7 : (P.stops == []) = true) (k8 : (c.knobs == []) = true) (k9 : (P.stopKnobs == []) = true)
    (k10 : (c.inPlace == P.inPlace f) = true) (k11 : (c.unfollowed == P.unfollowed f) = true) (k12 : (c.recurses == P.recurses f) = true) (k13 : (c.named == P.varsNamed f) = true)
    (k14 : (c.maps == (fn.params.toList ++ s.plain.varTypes P).any (P.mapsRec ·)) = true) (k15 : (c.ifaces == (fn.params.toList ++ s.plain.varTypes P).any (P.ifacesRec ·)) = true) (k16 : (c.mapsOut == P.mapsAmong fn.resultTypes.toList) = true)
    (k17 : (c.loops == (fn.params.toList ++ s.plain.varTypes P).any (P.loopsFrom ·)) = true) (k17b : (c.wideKeys == (fn.params.toList ++ s.plain.varTypes P ++ fn.resultTypes.toList).any (P.wideKeysFrom ·)) = true)
    (k18 : s.vars.all (P.varReadable ·) = true) (k19 : fn.resultTypes.all (fun t => P.readableRec t && decide (t < P.types.size)) = true) (k20 : (c.ifacesOut == fn.resultTypes.toList.any (P.ifacesRec ·)) = true) (k21 : (c.loopsOut == fn.resultTypes.toList.any (P.loopsFrom ·)) = true)
    (k22 : (c.plainKeys == P.plainKeys) = true) (k23 : c.shortTexts.isNone = true) (k23b : P.stopsHeard = true) (k24 : P.mayEnter = true) (k24b : (c.lifted == P.liftsFinal) = true) (k24c : (P.make == some c.make) = true)
    (k25 : (c.kinds == (if c.domain.isEmpty then [] else fn.params.toList.map fun t => match P.underlying t with | some (.int k) => some k | _ => none)) = true) (k26 : (c.pinned == c.pinnedBy) = true)
    (k27 : (c.veiled == (fn.params.toList ++ s.plain.varTypes P ++ fn.resultTypes.toList).any (P.veiledRec ·)) = true) (k28 : c.veiledFits P fn.params.toList (fn.params.toList ++ s.plain.varTypes P ++ fn.resultTypes.toList) = true) :
    joinedFacts P f fn s c = true := by
  simp only [joinedFacts, Bool.and_eq_true]
  exact ⟨⟨⟨⟨⟨⟨⟨⟨⟨⟨⟨⟨⟨⟨⟨⟨⟨⟨⟨⟨⟨⟨⟨⟨⟨⟨⟨⟨⟨⟨⟨k1, k2⟩, k3⟩, k4⟩, k5⟩, k6⟩, k7⟩, k8⟩, k9⟩, k10⟩, k11⟩, k12⟩, k13⟩, k14⟩, k15⟩, k16⟩, k17⟩, k17b⟩, k18⟩, k19⟩, k20⟩, k21⟩, k22⟩, k23⟩, k23b⟩, k24⟩, k24b⟩, k24c⟩, k25⟩, k26⟩, k27⟩, k28⟩

theorem beq_of {α : Type} [BEq α] [LawfulBEq α] {a b : α} (h : b = a) : (a == b) = true := by subst h; simp
end Go.Eng
