/-
  Chapter 4's statements in plain words: what is written fits in the least number of bytes.
  Conditions: none.
-/
import Derived.Test.YtlbdcahecabfkaaPlLaw4d
set_option linter.unusedSimpArgs false
set_option linter.unusedVariables false
namespace Go.Pl
open Go.Eng Go.Proofs

section
variable {N : Nat}
theorem tight_loop {l : List Rc.Act4} (hN : 30000 ≤ N) (hll : l.length ≤ 100) (ht : ∀ a ∈ l, a.t.length ≤ 17592186043904) (hv : ∀ a ∈ l, a.v < 9223372036854775808) :
    ∀ (nn k : Nat) (e : E), e.Ok → k ≤ l.length → e.k ≤ 4 * k → e.r ≤ 24 * k → l.length - k < nn → ∃ e' : E, e'.Ok ∧ e'.Low ∧
      Rc.rencTight.loop9 N l nn (k : Int) e.val e.rng e.r e.count e.told e.bits = some (e'.val, e'.rng, (e'.r : Int), e'.count, e'.told, e'.bits)
  | 0, k, e, _, _, _, _, h => by omega
  | nn + 1, k, e, h, hk, hk4, hr24, h0 => by
    unfold Rc.rencTight.loop9
    simp only [br_dec]
    by_cases hlt : k < l.length
    · have hmem : l.getD k Rc.Act4.nil ∈ l := by rw [List.getD_eq_getElem?_getD, List.getElem?_eq_getElem hlt]; exact List.getElem_mem hlt
      rw [if_pos (by omega), chk_pos (by omega), Int.toNat_natCast]
      have hx := hv _ hmem
      have hxt := ht _ hmem
      generalize l.getD k Rc.Act4.nil = x at *
      obtain ⟨g1, g2, g3, g4, g5, g6, g7⟩ := E.go_facts h x hx
      rw [written_F h ⟨by omega, by omega⟩ hN x hxt hx, obind_of]
      simp only
      rw [i64 (x := (k : Int) + 1) (by omega) (by omega)]
      have ih := tight_loop hN hll ht hv nn (k + 1) (e.go x) g1 (by omega) (by omega) (by omega) (by omega)
      rw [show ((k + 1 : Nat) : Int) = (k : Int) + 1 by omega] at ih
      exact ih
    · rw [if_neg (by omega)]
      exact ⟨e, h, ⟨by omega, by omega⟩, rfl⟩

theorem rencTight_pure (l : List Rc.Act4) (hv : ∀ a ∈ l, a.v < 9223372036854775808) (ht : ∀ a ∈ l, a.t.length ≤ 17592186043904) (hn : ∀ a ∈ l, -9223372036854775808 ≤ a.n ∧ a.n < 9223372036854775808) : ∃ N, Rc.rencTight.F N l = some true := by
  refine ⟨30000, ?_⟩
  unfold Rc.rencTight.F
  rw [awake4_F (by omega), obind_of]
  simp only [br_not, if_true, br_dec]
  by_cases hl : l.length > 100
  · rw [if_pos (by omega)]
  rw [if_neg (by omega), enew_F, obind_of]
  simp only
  obtain ⟨e, h, low, hlp⟩ := tight_loop (N := 30000) (l := l) (Nat.le_refl _) (by omega) ht hv 30000 0 E.new E.new_ok (by omega) (by decide) (by decide) (by omega)
  rw [show ((0 : Nat) : Int) = 0 from rfl] at hlp
  rw [hlp, obind_of]
  simp only
  have hc := count_range low
  have hb := E.bl_range h
  have hp := E.tell_pos h
  have ht2 : e.tell ≤ 1099511627776 := by unfold E.tell; omega
  rw [etell_F h (low.lim (by omega)), obind_of, i64 (x := e.tell + 7) (by omega) (by omega), tdiv_ediv (by omega), i64 (x := (e.tell + 7) / 8) (by omega) (by omega)]
  by_cases c : (e.tell + 7) / 8 > 1275
  · rw [if_pos c]
  rw [if_neg c, rencBack_F (Nat.le_refl _) l _ (by omega) hv ht hn, obind_of, br_true, i64 (x := (e.tell + 7) / 8 - 1) (by omega) (by omega), rencBack_F (Nat.le_refl _) l _ (by omega) hv ht hn, obind_of]
end
end Go.Pl
