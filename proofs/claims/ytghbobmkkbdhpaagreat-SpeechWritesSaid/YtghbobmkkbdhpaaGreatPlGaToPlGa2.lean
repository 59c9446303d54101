/-
 Layer 8, common parts: bounds of a loudness, from where to where a voice repeats.
 Conditions: none.
-/
import Derived.Test.YtghbobmkkbdhpaaGreatPlBaseToPlRen5
import Derived.Test.YtghbobmkkbdhpaaGreatPlKnown8
set_option linter.unusedVariables false
set_option linter.unusedSimpArgs false
namespace Go.Pl
open Go.Eng Go.Proofs
def c63 (v : Int) : Int := if v < 0 then 0 else if v > 63 then 63 else v
theorem c63_range (v : Int) : 0 <= c63 v /\ c63 v <= 63 := by
 unfold c63
 split
 ·omega
 ·split <;> omega
theorem c63_of {v : Int} (h0 : 0 <= v) (h1 : v <= 63) : c63 v = v := by unfold c63; rw [if_neg (by omega),if_neg (by omega)]
theorem gclamp_F {N : Nat} (v : Int) : Rc.gclamp.F N v = some (c63 v) := by
 unfold Rc.gclamp.F c63
 congr 1
 split <;> split <;> first | rfl | omega | (exfalso; omega) | (split <;> first | rfl | (exfalso; omega))
theorem rclamp63 {N : Nat} (v : Int) : Rc.rclamp.F N v 0 63 = some (c63 v) := by
 unfold Rc.rclamp.F c63
 simp only [br_dec]
 by_cases c1 : v < 0
 ·rw [if_pos c1,if_pos c1]
 rw [if_neg c1,if_neg c1,if_neg (by omega)]
 by_cases c2 : v > 63
 ·rw [if_pos c2,if_pos c2]
 ·rw [if_neg c2,if_neg c2]
def c8 (v : Int) : Int := if v < -8 then -8 else if v > 8 then 8 else v
theorem c8_range (v : Int) : -8 <= c8 v /\ c8 v <= 8 := by
 unfold c8
 split
 ·omega
 ·split <;> omega
def lo8 (rate : Int) : Int := if rate = 8000 then 16 else if rate = 16000 then 32 else 0
def hi8 (rate : Int) : Int := if rate = 8000 then 144 else if rate = 16000 then 288 else 0
theorem glags_F {N : Nat} (rate : Int) : Rc.glags.F N rate = some (lo8 rate,hi8 rate) := by
 unfold Rc.glags.F lo8 hi8
 simp only [br_bne]
 by_cases c1 : rate = 8000
 ·subst c1; rfl
 by_cases c2 : rate = 16000
 ·subst c2; rfl
 rw [if_neg c1,if_neg c2,if_neg c1,if_neg c2,if_neg c1,if_neg c2]
theorem rlags_F {N : Nat} (rate : Int) : Rc.rlags.F N rate = some (lo8 rate,hi8 rate) := by
 unfold Rc.rlags.F lo8 hi8
 simp only [br_bne]
 by_cases c1 : rate = 8000
 ·subst c1; rfl
 by_cases c2 : rate = 16000
 ·subst c2; rfl
 rw [if_neg c1,if_neg c2,if_neg c1,if_neg c2,if_neg c1,if_neg c2]
theorem lags_of (rate : Int) : (lo8 rate = 16 /\ hi8 rate = 144) \/ (lo8 rate = 32 /\ hi8 rate = 288) \/ (lo8 rate = 0 /\ hi8 rate = 0) := by
 unfold lo8 hi8
 split
 ·exact Or.inl ⟨rfl,rfl⟩
 ·split
  ·exact Or.inr (Or.inl ⟨rfl,rfl⟩)
  ·exact Or.inr (Or.inr ⟨rfl,rfl⟩)
theorem ticdf_F {N : Nat} (n : Int) : Rc.ticdf.F N n = some (icdfT n) := by
 unfold Rc.ticdf.F icdfT
 simp only [br_beq]
 repeat' split
 all_goals rfl
end Go.Pl
/-
 Layer 8: how loud the numbers are, and which one is gnear.
 Conditions: none.
-/
namespace Go.Pl
open Go.Eng Go.Proofs
set_option maxRecDepth 100000
section
variable {N : Nat}
end
section
variable {N : Nat}
end
end Go.Pl
/-
 Layer 8: what is read, by both.
 Conditions: none.
-/
namespace Go.Pl
open Go.Eng Go.Proofs
theorem len1 : (icdfT 1).length = 8 := rfl
theorem len2 : (icdfT 2).length = 17 := rfl
theorem len6 : (icdfT 6).length = 8 := rfl
theorem g1 : GoodT (icdfT 1) := icdf_good (by omega) (by omega)
theorem g2 : GoodT (icdfT 2) := icdf_good (by omega) (by omega)
theorem g6 : GoodT (icdfT 6) := icdf_good (by omega) (by omega)
section
variable {N : Nat} {b : List Int} {back window waiting count : Int} {bad : Bool}
end
end Go.Pl
