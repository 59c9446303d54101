/-
  Layer 20: noise, number by number.
  Conditions: none.
-/
import Derived.Test.YtghbobmkkbdhpaaPlBase
import Derived.Test.YtghbobmkkbdhpaaPlKnown20
set_option linter.unusedSimpArgs false
set_option linter.unusedVariables false
namespace Go.Pl
open Go.Eng Go.Proofs

def nxt (s : Int) : Int := (s * 1664525 + 1013904223) % 4294967296
def sgv (s : Int) : Int := if nxt s < 2147483648 then 1 else -1
theorem nxt_range (s : Int) : 0 ≤ nxt s ∧ nxt s < 4294967296 := by unfold nxt; omega
theorem sgv_range (s : Int) : sgv s = 1 ∨ sgv s = -1 := by unfold sgv; split <;> simp
def hsh (v : Int) : Nat → Int → List Int × Int
  | 0, s => ([], s)
  | n + 1, s => (sgv s * v :: (hsh v n (nxt s)).1, (hsh v n (nxt s)).2)
theorem hsh_len (v : Int) : ∀ (n : Nat) (s : Int), (hsh v n s).1.length = n
  | 0, _ => rfl
  | n + 1, s => by simp [hsh, hsh_len v n]
theorem hsh_range (v : Int) : ∀ (n : Nat) (s : Int), 0 ≤ s → s < 4294967296 → 0 ≤ (hsh v n s).2 ∧ (hsh v n s).2 < 4294967296
  | 0, s, h0, h1 => ⟨h0, h1⟩
  | n + 1, s, _, _ => hsh_range v n (nxt s) (nxt_range s).1 (nxt_range s).2
theorem hsh_mem (v : Int) : ∀ (n : Nat) (s : Int), ∀ x ∈ (hsh v n s).1, x = v ∨ x = 0 - v
  | 0, _, x, hx => by simp [hsh] at hx
  | n + 1, s, x, hx => by
    simp only [hsh, List.mem_cons] at hx
    rcases hx with rfl | hx
    · rcases sgv_range s with h | h
      · rw [h]; omega
      · rw [h]; omega
    · exact hsh_mem v n _ x hx

section
variable {N : Nat}
theorem wrap32 (x : Int) : IntKind.u32.wrap x = x % 4294967296 := rfl
theorem nnext_F (s : Int) : Rc.nnext.F N s = some (nxt s, nxt s) := by
  unfold Rc.nnext.F
  rw [wrap32, wrap32]
  have : (s * 1664525 % 4294967296 + 1013904223) % 4294967296 = nxt s := by unfold nxt; omega
  rw [this]
theorem nsign_F (s : Int) : Rc.nsign.F N s = some (sgv s, nxt s) := by
  unfold Rc.nsign.F sgv
  rw [nnext_F, obind_of]
  simp only [br_dec]
  split <;> rfl
theorem rsign_F {s : Int} (h0 : 0 ≤ s) (h1 : s < 4294967296) : Rc.rsign.F N s = some (sgv s, nxt s) := by
  unfold Rc.rsign.F
  simp only [br_dec]
  have e : IntKind.u32.wrap ((IntKind.u64.wrap (IntKind.u64.wrap (IntKind.u64.wrap s * 1664525) + 1013904223)).tmod 4294967296) = nxt s := by
    rw [u64 (x := s) (by omega) (by omega), u64 (x := s * 1664525) (by omega) (by omega), u64 (x := s * 1664525 + 1013904223) (by omega) (by omega), Int.tmod_eq_emod_of_nonneg (by omega), wrap32]
    unfold nxt
    omega
  rw [e]
  unfold sgv
  split <;> rfl

theorem half_wrap {c : Int} (h0 : 0 ≤ c) (h1 : c ≤ 33554432) : IntKind.i64.wrap ((IntKind.i64.wrap (c + 1)).tdiv 2) = (c + 1) / 2 := by
  rw [i64 (x := c + 1) (by omega) (by omega), tdiv_ediv (by omega), i64 (by omega) (by omega)]
theorem sgv_mul {s v : Int} (v0 : 0 ≤ v) (v1 : v ≤ 100000000) : IntKind.i64.wrap (sgv s * v) = sgv s * v := by
  rcases sgv_range s with h | h
  · rw [h, i64 (by omega) (by omega)]
  · rw [h, i64 (by omega) (by omega)]

theorem shush_loop {c : Int} (h0 : 0 ≤ c) (h1 : c ≤ 33554432) {n : Nat} (hn : n ≤ 1000) : ∀ (nn m : Nat) (A : List Int) (s : Int), A.length + m = n → m < nn →
    Rc.shush.loop6 N nn c n A.length s (A ++ List.replicate m 0) = some ((hsh ((c + 1) / 2) m s).2, A ++ (hsh ((c + 1) / 2) m s).1)
  | 0, m, A, s, _, h => by omega
  | nn + 1, 0, A, s, hA, h => by
    unfold Rc.shush.loop6
    simp only [br_dec]
    rw [if_neg (by omega)]
    simp [hsh]
  | nn + 1, m + 1, A, s, hA, h => by
    unfold Rc.shush.loop6
    simp only [br_dec, chkI_same, Int.toNat_natCast]
    rw [if_pos (by omega), nsign_F, obind_of, chk_pos (by simp; omega), half_wrap h0 h1, sgv_mul (by omega) (by omega), i64 (x := (A.length : Int) + 1) (by omega) (by omega)]
    have hs : (A ++ List.replicate (m + 1) (0 : Int)).set A.length (sgv s * ((c + 1) / 2)) = (A ++ [sgv s * ((c + 1) / 2)]) ++ List.replicate m 0 := by
      rw [List.replicate_succ, List.set_append_right _ _ (Nat.le_refl _)]
      simp
    rw [hs]
    have ih := shush_loop h0 h1 hn nn m (A ++ [sgv s * ((c + 1) / 2)]) (nxt s) (by simp; omega) (by omega)
    rw [List.length_append, List.length_singleton, show ((A.length + 1 : Nat) : Int) = (A.length : Int) + 1 by omega] at ih
    rw [ih]
    simp [hsh]
theorem rhush_loop {v : Int} (v0 : 0 ≤ v) (v1 : v ≤ 100000000) {n : Nat} (hn : n ≤ 1000) : ∀ (nn m : Nat) (A : List Int) (s : Int), 0 ≤ s → s < 4294967296 → A.length + m = n → m < nn →
    Rc.rhush.loop4 N nn n v A.length s A = some ((hsh v m s).2, A ++ (hsh v m s).1)
  | 0, m, A, s, _, _, _, h => by omega
  | nn + 1, 0, A, s, _, _, hA, h => by
    unfold Rc.rhush.loop4
    simp only [br_dec]
    rw [if_neg (by omega)]
    simp [hsh]
  | nn + 1, m + 1, A, s, s0, s1, hA, h => by
    unfold Rc.rhush.loop4
    simp only [br_dec, chkI_same]
    rw [if_pos (by omega), if_pos (by omega), rsign_F s0 s1, obind_of, chk_pos (by simp; omega), sgv_mul v0 v1, i64 (x := (A.length : Int) + 1) (by omega) (by omega)]
    have ih := rhush_loop v0 v1 hn nn m (A ++ [sgv s * v]) (nxt s) (nxt_range s).1 (nxt_range s).2 (by simp; omega) (by omega)
    rw [List.length_append, List.length_singleton, show ((A.length + 1 : Nat) : Int) = (A.length : Int) + 1 by omega] at ih
    rw [ih]
    simp [hsh]

def cz (v : Int) : Int := if v < 0 then 0 else if v > 33554432 then 33554432 else v
theorem cz_range (v : Int) : 0 ≤ cz v ∧ cz v ≤ 33554432 := by unfold cz; split <;> (try split) <;> omega
theorem clampz (v : Int) : Rc.clamp.F N v 0 33554432 = some (cz v) := by
  unfold Rc.clamp.F cz
  simp only [br_dec]
  rw [if_neg (by omega)]
  split
  · rfl
  · split <;> rfl
theorem rclampz (v : Int) : Rc.rclamp.F N v 0 33554432 = some (cz v) := by
  unfold Rc.rclamp.F cz
  simp only [br_dec]
  by_cases c1 : v < 0
  · rw [if_pos c1, if_pos c1]
  rw [if_neg c1, if_neg c1, if_neg (by omega)]
  split <;> rfl

/-- So many numbers: none where there are too many. -/
def hn (n : Int) : Nat := if n < 1 then 0 else if n > 1000 then 0 else n.toNat
theorem shush_F (hN : 2000 ≤ N) (n size s : Int) : Rc.shush.F N n size s = some ((hsh ((cz size + 1) / 2) (hn n) s).2, (hsh ((cz size + 1) / 2) (hn n) s).1) := by
  unfold Rc.shush.F hn
  simp only [br_dec]
  by_cases c1 : n < 1
  · rw [if_pos c1, if_pos c1]; rfl
  rw [if_neg c1, if_neg c1]
  by_cases c2 : n > 1000
  · rw [if_pos c2, if_pos c2]; rfl
  rw [if_neg c2, if_neg c2, clampz, obind_of, chk_pos (by omega), List.length_replicate]
  have h := shush_loop (N := N) (cz_range size).1 (cz_range size).2 (n := n.toNat) (by omega) N n.toNat [] s (by simp) (by omega)
  rw [List.nil_append, List.nil_append, List.length_nil, show ((0 : Nat) : Int) = 0 from rfl] at h
  rw [h, obind_of]
theorem rhush_F (hN : 2000 ≤ N) (n size : Int) {s : Int} (s0 : 0 ≤ s) (s1 : s < 4294967296) : Rc.rhush.F N n size s = some ((hsh ((cz size + 1) / 2) (hn n) s).2, (hsh ((cz size + 1) / 2) (hn n) s).1) := by
  unfold Rc.rhush.F hn
  rw [rclampz, obind_of, half_wrap (cz_range size).1 (cz_range size).2]
  have hr := cz_range size
  obtain ⟨M, rfl⟩ : ∃ M, N = M + 1 := ⟨N - 1, by omega⟩
  by_cases c1 : n < 1
  · rw [if_pos c1]
    unfold Rc.rhush.loop4
    simp only [br_dec]
    rw [if_neg (by omega), obind_of]
    rfl
  rw [if_neg c1]
  by_cases c2 : n > 1000
  · rw [if_pos c2]
    unfold Rc.rhush.loop4
    simp only [br_dec]
    rw [if_pos (by omega), if_neg (by omega), obind_of]
    rfl
  rw [if_neg c2]
  have h := rhush_loop (N := M + 1) (v := (cz size + 1) / 2) (by omega) (by omega) (n := n.toNat) (by omega) (M + 1) n.toNat [] s s0 s1 (by simp) (by omega)
  rw [List.nil_append, List.length_nil, show ((0 : Nat) : Int) = 0 from rfl, show ((n.toNat : Nat) : Int) = n by omega] at h
  rw [h, obind_of]

theorem drop_cons20 {l : List Int} {k : Nat} (h : k < l.length) : l.drop k = l.getD k 0 :: l.drop (k + 1) := by
  rw [List.drop_eq_getElem_cons h, List.getD_eq_getElem?_getD, List.getElem?_eq_getElem h]
  rfl
theorem same20_loop {a b e1 e2 : List Int} (hab : a.length = b.length) (hl : a.length ≤ 1000000) (s : Bool) : ∀ (nn k : Nat), k ≤ a.length → a.length - k < nn →
    (a.drop k = b.drop k → Rc.same20.loop4 N nn e1 e2 a b k s = some (.inl s)) ∧ (a.drop k ≠ b.drop k → Rc.same20.loop4 N nn e1 e2 a b k s = some (.inr false))
  | 0, k, _, h => by omega
  | nn + 1, k, hk, h => by
    unfold Rc.same20.loop4
    simp only [br_dec, br_bne, chkL_same]
    by_cases c : k < a.length
    · have ih := same20_loop (e1 := e1) (e2 := e2) hab hl s nn (k + 1) (by omega) (by omega)
      rw [show ((k + 1 : Nat) : Int) = (k : Int) + 1 by omega] at ih
      rw [if_pos (by omega), chk_pos (by omega), chk_pos (by omega), Int.toNat_natCast, i64 (by omega) (by omega), drop_cons20 c, drop_cons20 (show k < b.length by omega)]
      by_cases d : a.getD k 0 = b.getD k 0
      · rw [if_pos d, d]
        refine ⟨fun he => ih.1 (List.cons.inj he).2, fun he => ih.2 fun h2 => he (by rw [h2])⟩
      · rw [if_neg d]
        exact ⟨fun he => absurd (List.cons.inj he).1 d, fun _ => rfl⟩
    · rw [if_neg (by omega)]
      exact ⟨fun _ => rfl, fun he => absurd (by rw [List.drop_eq_nil_of_le (by omega), List.drop_eq_nil_of_le (by omega)]) he⟩
theorem same20_F (a b : List Int) (hl : a.length ≤ 1000000) (hN : a.length < N) : Rc.same20.F N a b = some (decide (a = b)) := by
  unfold Rc.same20.F
  rw [br_bne]
  by_cases c : a.length = b.length
  · rw [if_pos (by omega)]
    have h := same20_loop (N := N) (e1 := a) (e2 := b) c hl false N 0 (by omega) (by omega)
    rw [show ((0 : Nat) : Int) = 0 from rfl, List.drop_zero, List.drop_zero] at h
    by_cases d : a = b
    · rw [h.1 d, osum_inl, decide_eq_true d]
    · rw [h.2 d, decide_eq_false d]; rfl
  · rw [if_neg (by omega), decide_eq_false (fun h => c (by rw [h]))]
end

theorem shapeNoise_pure (seed n size : Int) (s0 : 0 ≤ seed) (s1 : seed < 4294967296) : ∃ N, Rc.shapeNoise.F N seed n size = some true := by
  refine ⟨30000, ?_⟩
  unfold Rc.shapeNoise.F
  rw [awake20_F (by omega), obind_of]
  simp only [br_not, if_true, br_dec, br_beq, br_bne]
  by_cases c1 : n < 0
  · rw [if_pos c1]
  rw [if_neg c1]
  by_cases c2 : n > 1100
  · rw [if_pos c2]
  have hr := hsh_range ((cz size + 1) / 2) (hn n) seed s0 s1
  have hn1 : hn n ≤ 1000 := by unfold hn; split <;> (try split) <;> omega
  have hlen := hsh_len ((cz size + 1) / 2) (hn n) seed
  rw [if_neg c2, shush_F (by omega), obind_of, rhush_F (by omega) _ _ s0 s1, obind_of]
  simp only
  rw [same20_F _ _ (by omega) (by omega), obind_of, decide_eq_true rfl, if_pos rfl]
  simp only [if_true]
  rw [nsign_F, obind_of, rsign_F hr.1 hr.2, obind_of]
  simp only [if_true]
  rw [nnext_F, obind_of, rsign_F (nxt_range _).1 (nxt_range _).2, obind_of]
  simp
end Go.Pl
