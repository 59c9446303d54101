/-
  Chapter 4's statements in plain words: bits alone are laid from the end.
  Conditions: none.
-/
import Derived.Test.YtgimkkepagcpkaaPlLaw4
set_option linter.unusedSimpArgs false
set_option linter.unusedVariables false
namespace Go.Pl
open Go.Eng Go.Proofs

def rawE (l : List Int) : Nat → E
  | 0 => E.new
  | i + 1 => (rawE l i).bt (l.getD i 0 % 256) 8

theorem rawE_facts (l : List Int) : ∀ i, (rawE l i).Ok ∧ (rawE l i).k = 0 ∧ (rawE l i).r = 8 * i ∧ (rawE l i).rng = 2147483648 ∧ (rawE l i).low = 0
  | 0 => ⟨E.new_ok, rfl, rfl, rfl, rfl⟩
  | i + 1 => by
    obtain ⟨h1, h2, h3, h4, h5⟩ := rawE_facts l i
    refine ⟨E.bt_ok h1 (by omega) (by show _ < (256 : Int); omega), h2, ?_, h4, h5⟩
    show (rawE l i).r + 8 = _
    omega

theorem rawE_fit {b : List Int} {l : List Int} : ∀ (d n : Nat), (rawE l (n + d)).Fit b → (rawE l n).Fit b
  | 0, n, h => h
  | d + 1, n, h => by
    obtain ⟨h1, _⟩ := rawE_facts l (n + d)
    exact rawE_fit d n (E.bt_fit h1 (v := l.getD (n + d) 0 % 256) (n := 8) (by omega) (by show _ < (256 : Int); omega) h).1

theorem mask255 (x : Int) : IntKind.i64.wrap ↑(BitVec.ofInt IntKind.i64.bits x &&& BitVec.ofInt IntKind.i64.bits 255).toNat = x % 256 := by
  rw [bits_i64, and_mask_any (w := 64) (k := 8) (m := 255) x rfl (by omega), show (2 : Int) ^ 8 = 256 from rfl, i64 (by omega) (by omega)]

section
variable {N : Nat}

theorem raws_write {l0 l : List Int} {bytes : Int} (hN : 30000 ≤ N) (hl : l.length ≤ 60) : ∀ (nn i : Nat), i ≤ l.length → l.length - i < nn →
    Rc.rencRaw.loop10 N l0 bytes nn (rawE l i).val (rawE l i).rng l (8 * (i : Int)) (i : Int) ((rawE l i).r : Int) (rawE l i).count false (rawE l i).told (rawE l i).bits =
      some (.inl (8 * (l.length : Int), ((rawE l l.length).r : Int), (rawE l l.length).count, false, (rawE l l.length).told, (rawE l l.length).bits))
  | 0, i, _, h => by omega
  | nn + 1, i, hi, h => by
    unfold Rc.rencRaw.loop10
    simp only [br_dec, br_bne, chkI_same, chkL_same]
    by_cases hlt : i < l.length
    · obtain ⟨h1, h2, h3, h4, h5⟩ := rawE_facts l i
      rw [if_pos (by omega), chk_pos (by omega), Int.toNat_natCast, mask255, ebits_F h1 (by omega) (by omega) (by omega), obind_of]
      rw [if_pos (show 0 ≤ (8 : Int) ∧ (8 : Int) ≤ 24 ∧ 0 ≤ l.getD i 0 % 256 ∧ l.getD i 0 % 256 < 2 ^ (8 : Int).toNat from ⟨by omega, by omega, by omega, by show _ < (256 : Int); omega⟩)]
      simp only [if_true]
      have ih := raws_write (l0 := l0) (bytes := bytes) hN hl nn (i + 1) (by omega) (by omega)
      rw [i64 (by omega) (by omega), i64 (by omega) (by omega)]
      rw [show ((i + 1 : Nat) : Int) = (i : Int) + 1 by omega, show 8 * ((i : Int) + 1) = 8 * (i : Int) + 8 by omega] at ih
      exact ih
    · have : i = l.length := by omega
      subst this
      rw [if_neg (by omega)]

theorem raws_read {l0 : List Int} {bytes : Int} {b l : List Int} {rng val last front : Int} (hb : Bytes b) (hlb : b.length ≤ 300) (hN : 30000 ≤ N) (hl : l.length ≤ 60) (hfit : ∀ i, i ≤ l.length → (rawE l i).Fit b) : ∀ (nn i : Nat) (w : W) (count : Int), w.Ok → w.At b (8 * i) → 0 ≤ count → count + 8 * (l.length - i : Nat) < 100000 → i ≤ l.length → l.length - i < nn →
    ∃ r, Rc.rencRaw.loop24 N l0 bytes nn rng val last front false l b (i : Int) (fr b w.k) w.win (w.wai : Int) count false = some (.inl r)
  | 0, i, w, c, _, _, _, _, _, h => by omega
  | nn + 1, i, w, c, hw, hat, c0, c1, hi, h => by
    unfold Rc.rencRaw.loop24
    simp only [br_dec, br_bne, chkI_same, chkL_same, chkB_same]
    by_cases hlt : i < l.length
    · obtain ⟨h1, h2, h3, h4, h5⟩ := rawE_facts l i
      have hf := hfit (i + 1) (by omega)
      obtain ⟨g1, g2, g3, g4⟩ := E.bt_back hb h1 (v := l.getD i 0 % 256) (n := 8) (by omega) (by omega) (by show _ < (256 : Int); omega) hf (w := w) (by rw [h3]; exact hat)
      rw [if_pos (by omega), bits_F hb (by omega) hw 8 c0 (by omega) (by omega), if_pos (by omega), obind_of]
      simp only
      rw [chk_pos (by omega), Int.toNat_natCast, mask255, show (8 : Int).toNat = 8 from rfl, g2, if_pos rfl, i64 (by omega) (by omega)]
      have e8 : ((rawE l i).bt (l.getD i 0 % 256) 8).r = 8 * (i + 1) := by show (rawE l i).r + 8 = _; omega
      rw [e8] at g3
      have ih := raws_read (l0 := l0) (bytes := bytes) (rng := rng) (val := val) (last := last) (front := front) hb hlb hN hl hfit nn (i + 1) (w.next b 8) (c + 8) (W.next_ok hb hw (by omega)) g3 (by omega) (by omega) (by omega) (by omega)
      rw [show ((i + 1 : Nat) : Int) = (i : Int) + 1 by omega] at ih
      exact ih
    · rw [if_neg (by omega)]
      exact ⟨_, rfl⟩

theorem W.at_new (b : List Int) : W.new.At b 0 := ⟨rfl, rfl⟩

theorem rencRaw_pure (l : List Int) (bytes : Int) : ∃ N, Rc.rencRaw.F N l bytes = some true := by
  refine ⟨30000, ?_⟩
  unfold Rc.rencRaw.F
  rw [awake4_F (by omega), obind_of]
  simp only [br_not, if_true, br_dec, br_bne, br_beq]
  by_cases c1 : l.length > 60
  · rw [if_pos (by omega)]
  by_cases c2 : bytes < 0
  · rw [if_neg (by omega), if_pos c2]
  by_cases c3 : bytes > 300
  · rw [if_neg (by omega), if_neg c2, if_pos c3]
  rw [if_neg (by omega), if_neg c2, if_neg c3, enew_F, obind_of]
  simp only
  have hwr := raws_write (N := 30000) (l0 := l) (bytes := bytes) (l := l) (by omega) (by omega) 30000 0 (by omega) (by omega)
  obtain ⟨f1, f2, f3, f4, f5⟩ := rawE_facts l l.length
  have low : (rawE l l.length).Low := ⟨by omega, by omega⟩
  have hval : (rawE l l.length).val = E.new.val := by unfold E.val; rw [f5]; rfl
  have hrng : (rawE l l.length).rng = E.new.rng := f4
  have htell : (rawE l l.length).tell = 1 + 8 * l.length := by
    have e32 : bl 2147483648 = 32 := by decide +kernel
    unfold E.tell E.count
    rw [f4, e32, f2, f3]
    omega
  have e0 : rawE l 0 = E.new := rfl
  rw [e0, show (8 * ((0 : Nat) : Int)) = 0 from rfl, show ((0 : Nat) : Int) = 0 from rfl] at hwr
  rw [hwr, osum_inl, ← hval, ← hrng]
  simp only
  rw [etell_F f1 (low.lim (by omega)), obind_of, i64 (x := 1 + 8 * (l.length : Int)) (by omega) (by omega), htell, if_pos rfl, i64 (x := 8 * bytes) (by omega) (by omega), edone_F f1 (low.lim (by omega)) (by omega), obind_of, if_neg (show ¬ (bytes < 0 ∨ bytes > 1275) by omega), htell]
  by_cases c4 : 1 + 8 * (l.length : Int) > 8 * bytes
  · rw [if_pos c4, if_pos c4]
    simp
  · rw [if_neg c4, if_neg c4]
    obtain ⟨m, rfl⟩ := Int.eq_ofNat_of_zero_le (show 0 ≤ bytes by omega)
    have hfit := (E.out_fit f1 (n := m) (by rw [htell]; omega)).2.2.2.2
    simp only [if_true, Int.toNat_natCast, tb_len]
    rw [new_F (tb_bytes _ _) (by rw [tb_len]; omega) (by omega), obind_of]
    simp only
    obtain ⟨r, hr⟩ := raws_read (N := 30000) (l0 := l) (bytes := (m : Int)) (b := tb m ((rawE l l.length).out m)) (l := l) (rng := (Q.new (tb m ((rawE l l.length).out m))).rng) (val := (Q.new (tb m ((rawE l l.length).out m))).val) (last := (Q.new (tb m ((rawE l l.length).out m))).last) (front := fr (tb m ((rawE l l.length).out m)) (Q.new (tb m ((rawE l l.length).out m))).m)
      (tb_bytes _ _) (by rw [tb_len]; omega) (by omega) (by omega) (fun i hi => by
        have := rawE_fit (b := tb m ((rawE l l.length).out m)) (l := l) (l.length - i) i
        rw [show i + (l.length - i) = l.length by omega] at this
        exact this hfit) 30000 0 W.new (cnew (tb m ((rawE l l.length).out m))) W.new_ok (W.at_new _) (cnew_range _).1 (by have := (cnew_range (tb m ((rawE l l.length).out m))).2; omega) (by omega) (by omega)
    rw [show ((0 : Nat) : Int) = 0 from rfl] at hr
    have e1 : fr (tb m ((rawE l l.length).out m)) W.new.k = 0 := rfl
    have e2 : W.new.win = 0 := rfl
    have e3 : (W.new.wai : Int) = 0 := rfl
    rw [e1, e2, e3] at hr
    rw [hr, osum_inl]
end
end Go.Pl
