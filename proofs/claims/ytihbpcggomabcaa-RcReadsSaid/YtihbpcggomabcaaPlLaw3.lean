/-
  Chapter 3's statements in plain words: tables, what the document tells of a few bytes, twins.
  Conditions: none.
-/
import Derived.Test.YtihbpcggomabcaaPlRc4
import Derived.Test.YtihbpcggomabcaaRcLaws
set_option linter.unusedSimpArgs false
set_option linter.unusedVariables false
namespace Go.Pl
open Go.Eng Go.Proofs

/-! ### The document's tables -/
def icdfT (n : Int) : List Int :=
  if n = 0 then [192, 96, 0] else if n = 1 then [224, 192, 160, 128, 96, 64, 32, 0] else
  if n = 2 then [252, 247, 240, 230, 214, 190, 150, 106, 66, 42, 26, 16, 10, 6, 4, 2, 0] else
  if n = 3 then [240, 224, 208, 192, 176, 160, 144, 128, 112, 96, 80, 64, 48, 32, 16, 0] else
  if n = 4 then [253, 244, 222, 170, 86, 34, 12, 3, 0] else
  if n = 5 then [218, 180, 148, 122, 100, 82, 67, 54, 43, 34, 26, 19, 14, 10, 6, 3, 0] else
  if n = 6 then [205, 163, 128, 97, 70, 44, 20, 0] else if n = 7 then [231, 155, 38, 0] else
  if n = 8 then [192, 128, 64, 0] else []

theorem icdf_F {N : Nat} (n : Int) : Rc.icdf.F N n = some (icdfT n) := by
  unfold Rc.icdf.F icdfT
  simp only [br_beq]
  repeat' split
  all_goals rfl

theorem good_of {t : List Int} (h : (1 ≤ t.length ∧ t.length ≤ 256 ∧ t.getD (t.length - 1) 0 = 0 ∧ t.getD 0 0 < 256) ∧ ∀ k, k < t.length → 1 ≤ k → t.getD k 0 < t.getD (k - 1) 0) : GoodT t :=
  ⟨h.1.1, h.1.2.1, h.1.2.2.1, h.1.2.2.2, fun k h1 h2 => h.2 k h2 h1⟩

theorem icdf_good {n : Int} (h0 : 0 ≤ n) (h1 : n ≤ 8) : GoodT (icdfT n) := by
  have : n = 0 ∨ n = 1 ∨ n = 2 ∨ n = 3 ∨ n = 4 ∨ n = 5 ∨ n = 6 ∨ n = 7 ∨ n = 8 := by omega
  rcases this with rfl | rfl | rfl | rfl | rfl | rfl | rfl | rfl | rfl <;> exact good_of (by decide)

theorem mask7 (x : Int) : IntKind.i64.wrap ↑(BitVec.ofInt IntKind.i64.bits x &&& BitVec.ofInt IntKind.i64.bits 7).toNat = x % 8 := by
  rw [bits_i64, and_mask_any (w := 64) (k := 3) x (m := 7) rfl (by omega), i64 (by omega) (by omega)]
  rfl
theorem mask15 (x : Int) : IntKind.i64.wrap ↑(BitVec.ofInt IntKind.i64.bits x &&& BitVec.ofInt IntKind.i64.bits 15).toNat = x % 16 := by
  rw [bits_i64, and_mask_any (w := 64) (k := 4) x (m := 15) rfl (by omega), i64 (by omega) (by omega)]
  rfl

theorem cnew_range (b : List Int) : 0 ≤ cnew b ∧ cnew b ≤ 41 := by
  have := Q.new_m b
  unfold cnew
  omega

theorem ct_range {b : List Int} {q q' : Q} (h : q.m ≤ q'.m ∧ q'.m ≤ q.m + 4) (c : Int) : c ≤ ct c q q' ∧ ct c q q' ≤ c + 32 := by
  unfold ct
  omega

/-- At first nothing waits. -/
def W.new : W := ⟨0, 0, 0⟩
theorem W.new_ok : W.new.Ok := ⟨by decide, by decide, by decide⟩

/-- What the document tells of a few bytes. -/
theorem awake_F {N : Nat} (hN : 300 ≤ N) : Rc.awake.F N = some true := by
  have b0 : Bytes [] := fun x hx => by simp at hx
  have b1 : Bytes [0] := fun x hx => by simp at hx; omega
  have b2 : Bytes [255] := fun x hx => by simp at hx; omega
  have g0 : GoodT (icdfT 0) := icdf_good (by omega) (by omega)
  unfold Rc.awake.F
  rw [new_F b0 (by decide) hN, obind_of]
  simp only
  rw [tell_F (Q.new_ok b0) (cnew_range _).1 (by have := (cnew_range []).2; omega), obind_of, show ((Q.new []).tell (cnew []) == 1) = true by decide +kernel, br_true, new_F b1 (by decide) hN, obind_of, icdf_F, obind_of]
  simp only
  rw [(symbol_F b1 (by decide) (Q.new_ok b1) (icdfT 0) (cnew_range _).1 (by have := (cnew_range [0]).2; omega) hN).1 g0, obind_of]
  simp only
  rw [show (((Q.new [0]).sk (icdfT 0) : Int) == 0) = true by decide +kernel, br_true, new_F b2 (by decide) hN, obind_of, obind_of]
  simp only
  rw [(symbol_F b2 (by decide) (Q.new_ok b2) (icdfT 0) (cnew_range _).1 (by have := (cnew_range [255]).2; omega) hN).1 g0, obind_of]
  simp only
  rw [show (((Q.new [255]).sk (icdfT 0) : Int) == 2) = true by decide +kernel, br_true, obind_of]
  simp only
  have := bits_F (N := N) (rng := (Q.new [255]).rng) (val := (Q.new [255]).val) (last := (Q.new [255]).last) (front := fr [255] (Q.new [255]).m) (count := cnew [255]) (bad := false) b2 (by decide) W.new_ok 3 (cnew_range _).1 (by have := (cnew_range [255]).2; omega) hN
  simp only [W.new] at this
  rw [show fr [255] 0 = 0 from rfl, show ((0 : Nat) : Int) = 0 from rfl, if_pos (by decide)] at this
  rw [this, obind_of]
  exact congrArg some (by decide +kernel)

/-! ### Twins -/
theorem twins_mine {N : Nat} {b : List Int} {l : List Rc.Act3} : ∀ (nn k : Nat) (s : List Int), s.length ≤ 1000 → s.length - k < nn → k ≤ s.length → ∃ r, Rc.rcTwins.loop9 N b l nn (k : Int) s = some r
  | 0, k, s, _, h, _ => by omega
  | nn + 1, k, s, hs, h, hk => by
    unfold Rc.rcTwins.loop9
    simp only [br_dec]
    by_cases hlt : k < s.length
    · rw [if_pos (by omega), chk_pos (by omega), chk_pos (by omega), i64 (by omega) (by omega)]
      exact twins_mine nn (k + 1) _ (by simpa using hs) (by simp; omega) (by simp; omega)
    · rw [if_neg (by omega)]
      exact ⟨_, rfl⟩

theorem twins_loop {N : Nat} {b : List Int} {l : List Rc.Act3} (hb : Bytes b) (hl : b.length < 1099511627776) (hN : 300 ≤ N) (hll : l.length ≤ 100) :
    ∀ (nn k : Nat) (q : Q) (w : W) (count : Int) (s : Bool), q.Ok → w.Ok → 0 ≤ count → count + 40 * ((l.length : Int) - k) < 100000 → k ≤ l.length → l.length - k < nn →
      ∃ r, Rc.rcTwins.loop13 N b l nn false false b b (k : Int) q.rng q.val q.last (fr b q.m) (fr b w.k) w.win (w.wai : Int) count q.rng q.val q.last (fr b q.m) (fr b w.k) w.win (w.wai : Int) count s = some (Sum.inl r)
  | 0, k, q, w, count, s, _, _, _, _, _, h => by omega
  | nn + 1, k, q, w, count, s, hq, hw, hc0, hc1, hk, h => by
    unfold Rc.rcTwins.loop13
    simp only [br_dec, chkI_same, chkB_same, chkL_same]
    by_cases hlt : k < l.length
    · rw [if_pos (by omega), chk_pos (by omega), mask7, icdf_F, obind_of]
      have g := icdf_good (n := (l.getD (k : Int).toNat Rc.Act3.nil).n % 8) (by omega) (by omega)
      have hs := (symbol_F (N := N) (back := fr b w.k) (window := w.win) (waiting := (w.wai : Int)) (bad := false) hb hl hq _ hc0 (by omega) hN).1 g
      rw [hs, obind_of, obind_of, br_bne, if_pos rfl, chk_pos (by omega), mask7]
      simp only
      have hm := Q.tk_m b q (symL (icdfT ((l.getD (k : Int).toNat Rc.Act3.nil).n % 8)) (q.sk (icdfT ((l.getD (k : Int).toNat Rc.Act3.nil).n % 8)))) (256 - (icdfT ((l.getD (k : Int).toNat Rc.Act3.nil).n % 8)).getD (q.sk (icdfT ((l.getD (k : Int).toNat Rc.Act3.nil).n % 8))) 0) 256
      have hcr := ct_range (b := b) hm count
      have hq2 : (q.sy b (icdfT ((l.getD (k : Int).toNat Rc.Act3.nil).n % 8))).Ok := Q.tk_ok hb hq (Q.sk_spec hq g).2
      rw [bits_F hb hl hw ((l.getD (k : Int).toNat Rc.Act3.nil).m % 8) (by unfold Q.sy; omega) (by unfold Q.sy; omega) hN, if_pos (by omega), obind_of, chk_pos (by omega), obind_of, br_bne, if_pos rfl]
      simp only
      rw [tell_F hq2 (by unfold Q.sy; omega) (by unfold Q.sy; omega), obind_of, obind_of, br_bne, if_pos rfl, i64 (by omega) (by omega)]
      exact twins_loop hb hl hN hll nn (k + 1) (q.sy b (icdfT ((l.getD (k : Int).toNat Rc.Act3.nil).n % 8))) (w.next b ((l.getD (k : Int).toNat Rc.Act3.nil).m % 8).toNat) _ s hq2 (W.next_ok hb hw (by omega)) (by unfold Q.sy; omega) (by unfold Q.sy; omega) (by omega) (by omega)
    · rw [if_neg (by omega)]
      exact ⟨_, rfl⟩

theorem rcTwins_pure (b : List Int) (l : List Rc.Act3) (hw : WfL .u8 b) : ∃ N, Rc.rcTwins.F N b l = some true := by
  refine ⟨2000, ?_⟩
  have hb := bytes_of hw
  unfold Rc.rcTwins.F
  rw [awake_F (by omega), obind_of]
  simp only [br_dec, br_not, if_true]
  by_cases h1 : (b.length : Int) > 500
  · rw [if_pos h1]
  rw [if_neg h1]
  by_cases h2 : (l.length : Int) > 60
  · rw [if_pos h2]
  rw [if_neg h2, chk_pos (by simp; omega)]
  rw [show ([] : List Int) ++ b = b from rfl, new_F hb (by omega) (by omega), obind_of, obind_of]
  obtain ⟨r, hr⟩ := twins_mine (N := 2000) (b := b) (l := l) 2000 0 b (by omega) (by omega) (by omega)
  rw [show ((0 : Nat) : Int) = 0 from rfl] at hr
  rw [hr, obind_of]
  simp only
  have hc := cnew_range b
  obtain ⟨r2, hr2⟩ := twins_loop (N := 2000) (b := b) (l := l) hb (by omega) (by omega) (by omega) 2000 0 (Q.new b) W.new (cnew b) false (Q.new_ok hb) W.new_ok hc.1 (by omega) (by omega) (by omega)
  simp only [W.new] at hr2
  rw [show ((0 : Nat) : Int) = 0 from rfl, show fr b 0 = 0 by simp [fr]] at hr2
  rw [hr2, osum_inl]
end Go.Pl
