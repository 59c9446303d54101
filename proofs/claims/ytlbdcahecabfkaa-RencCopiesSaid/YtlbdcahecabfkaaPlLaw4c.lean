/-
  Chapter 4's statements in plain words: a copy goes its own way.
  Conditions: none.
-/
import Derived.Test.YtlbdcahecabfkaaPlLaw4
set_option linter.unusedSimpArgs false
set_option linter.unusedVariables false
namespace Go.Pl
open Go.Eng Go.Proofs

section
variable {N : Nat}
theorem copies_loop {a b : List Rc.Act4} (hN : 30000 ≤ N) (hla : a.length ≤ 50) (ht : ∀ x ∈ a, x.t.length ≤ 17592186043904) (hv : ∀ x ∈ a, x.v < 9223372036854775808) :
    ∀ (nn k : Nat) (e : E), e.Ok → k ≤ a.length → e.k ≤ 4 * k → e.r ≤ 24 * k → a.length - k < nn → ∃ e' : E, e'.Ok ∧ e'.k ≤ 200 ∧ e'.r ≤ 1200 ∧
      Rc.rencCopies.loop8 N a b nn (k : Int) e.val e.rng e.r e.count e.val e.rng e.r e.count e.told e.bits e.told e.bits =
        some (e'.val, e'.rng, (e'.r : Int), e'.count, e'.val, e'.rng, (e'.r : Int), e'.count, e'.told, e'.bits, e'.told, e'.bits)
  | 0, k, e, _, _, _, _, h => by omega
  | nn + 1, k, e, h, hk, hk4, hr24, h0 => by
    unfold Rc.rencCopies.loop8
    simp only [br_dec]
    by_cases hlt : k < a.length
    · have hmem : a.getD k Rc.Act4.nil ∈ a := by rw [List.getD_eq_getElem?_getD, List.getElem?_eq_getElem hlt]; exact List.getElem_mem hlt
      rw [if_pos (by omega), chk_pos (by omega), Int.toNat_natCast]
      have hx := hv _ hmem
      have hxt := ht _ hmem
      generalize a.getD k Rc.Act4.nil = x at *
      obtain ⟨g1, g2, g3, g4, g5, g6, g7⟩ := E.go_facts h x hx
      rw [written_F h ⟨by omega, by omega⟩ hN x hxt hx, obind_of, chk_pos (by omega), obind_of]
      simp only
      rw [i64 (x := (k : Int) + 1) (by omega) (by omega)]
      have ih := copies_loop (b := b) hN hla ht hv nn (k + 1) (e.go x) g1 (by omega) (by omega) (by omega) (by omega)
      rw [show ((k + 1 : Nat) : Int) = (k : Int) + 1 by omega] at ih
      exact ih
    · rw [if_neg (by omega)]
      exact ⟨e, h, by omega, by omega, rfl⟩

theorem other_loop {a b : List Rc.Act4} (hN : 30000 ≤ N) (hlb : b.length ≤ 50) (ht : ∀ x ∈ b, x.t.length ≤ 17592186043904) (hv : ∀ x ∈ b, x.v < 9223372036854775808) :
    ∀ (nn k : Nat) (e : E), e.Ok → k ≤ b.length → e.k ≤ 200 + 4 * k → e.r ≤ 1200 + 24 * k → b.length - k < nn → ∃ r, Rc.rencCopies.loop14 N a b nn (k : Int) e.val e.rng e.r e.count e.told e.bits = some r
  | 0, k, e, _, _, _, _, h => by omega
  | nn + 1, k, e, h, hk, hk4, hr24, h0 => by
    unfold Rc.rencCopies.loop14
    simp only [br_dec]
    by_cases hlt : k < b.length
    · have hmem : b.getD k Rc.Act4.nil ∈ b := by rw [List.getD_eq_getElem?_getD, List.getElem?_eq_getElem hlt]; exact List.getElem_mem hlt
      rw [if_pos (by omega), chk_pos (by omega), Int.toNat_natCast]
      have hx := hv _ hmem
      have hxt := ht _ hmem
      generalize b.getD k Rc.Act4.nil = x at *
      obtain ⟨g1, g2, g3, g4, g5, g6, g7⟩ := E.go_facts h x hx
      rw [written_F h ⟨by omega, by omega⟩ hN x hxt hx, obind_of]
      simp only
      rw [i64 (x := (k : Int) + 1) (by omega) (by omega)]
      have ih := other_loop (a := a) hN hlb ht hv nn (k + 1) (e.go x) g1 (by omega) (by omega) (by omega) (by omega)
      rw [show ((k + 1 : Nat) : Int) = (k : Int) + 1 by omega] at ih
      exact ih
    · rw [if_neg (by omega)]
      exact ⟨_, rfl⟩

theorem told_len (e : E) : e.told.length = e.k := tb_len _ _
theorem le_len8 : ∀ (n : Nat) (x : Int), (le n x).length = n
  | 0, _ => rfl
  | n + 1, x => by simp [le, le_len8 n]
theorem bits_len (e : E) : e.bits.length = (e.r + 7) / 8 := le_len8 _ _

theorem rencCopies_pure (a b : List Rc.Act4) (hva : ∀ x ∈ a, x.v < 9223372036854775808) (hta : ∀ x ∈ a, x.t.length ≤ 17592186043904) (hvb : ∀ x ∈ b, x.v < 9223372036854775808) (htb : ∀ x ∈ b, x.t.length ≤ 17592186043904) : ∃ N, Rc.rencCopies.F N a b = some true := by
  refine ⟨30000, ?_⟩
  unfold Rc.rencCopies.F
  rw [awake4_F (by omega), obind_of]
  simp only [br_not, if_true, br_dec, br_beq]
  by_cases k1 : a.length > 50
  · rw [if_pos (by omega)]
  by_cases k2 : b.length > 50
  · rw [if_neg (by omega), if_pos (by omega)]
  rw [if_neg (by omega), if_neg (by omega), enew_F, obind_of, obind_of]
  simp only
  obtain ⟨e, h1, h2, h3, hl⟩ := copies_loop (N := 30000) (a := a) (b := b) (Nat.le_refl _) (by omega) hta hva 30000 0 E.new E.new_ok (by omega) (by decide) (by decide) (by omega)
  rw [show ((0 : Nat) : Int) = 0 from rfl] at hl
  rw [hl, obind_of]
  simp only
  have hcopy : Rc.ecopy.F 30000 e.val e.rng e.r e.count e.told e.bits = some (e.val, e.rng, (e.r : Int), e.count, e.told, e.bits) := by
    unfold Rc.ecopy.F
    simp only [chkI_same, chkL_same]
    rw [clone8_F (by rw [told_len]; omega), obind_of, clone8_F (by rw [bits_len]; omega), obind_of]
  obtain ⟨r, hr⟩ := other_loop (N := 30000) (a := a) (b := b) (Nat.le_refl _) (by omega) htb hvb 30000 0 e h1 (by omega) (by omega) (by omega) (by omega)
  rw [show ((0 : Nat) : Int) = 0 from rfl] at hr
  have low : e.Low := ⟨by omega, by omega⟩
  rw [hcopy, obind_of]
  simp only
  rw [hr, obind_of, edone_F h1 (low.lim (by omega)) (by omega), obind_of, edone_F h1 (low.lim (by omega)) (by omega), obind_of, obind_of, if_pos rfl]
  simp only [beq_self_eq_true, br_true]
  rw [etell_F h1 (low.lim (by omega)), obind_of, obind_of]
  simp
end
end Go.Pl
