/-
  Plain words for plain proofs: what the evaluator's marks come to, wraps, bits. Nothing is claimed of the program here.
  Conditions: none.
-/
import Derived.Test.YtghbobmkkbdhpaaEngMkToEngWords
import Derived.Test.YtghbobmkkbdhpaaShapeLaws
import Derived.Test.YtghbobmkkbdhpaaRcFns
import Derived.Test.YtghbobmkkbdhpaaRencFns
set_option linter.unusedVariables false
set_option linter.unusedSimpArgs false
namespace Go.Pl
open Go.Eng
variable {X Y : Type}

/-! ### Marks -/
theorem br_true (t e : Option Y) : br true t e = t := rfl
theorem br_dec {p : Prop} [Decidable p] (t e : Option Y) : br (decide p) t e = if p then t else e := by
  by_cases h : p <;> simp [br, h]
theorem br_not_dec {p : Prop} [Decidable p] (t e : Option Y) : br (!decide p) t e = if p then e else t := by
  by_cases h : p <;> simp [br, h]
theorem br_not (b : Bool) (t e : Option Y) : br (!b) t e = if b = true then e else t := by cases b <;> rfl
theorem br_bne (a b : Int) (t e : Option Y) : br (a != b) t e = if a = b then e else t := by
  by_cases h : a = b
  · subst h; simp [br]
  · have : (a != b) = true := by simpa using h
    rw [this, if_neg h]; rfl
theorem br_beq (a b : Int) (t e : Option Y) : br (a == b) t e = if a = b then t else e := by
  by_cases h : a = b
  · subst h; simp [br]
  · have : (a == b) = false := by simpa using h
    rw [this, if_neg h]; rfl
theorem chk_pos {c : Prop} [Decidable c] (h : c) (k : Option Y) : chk c k = k := by simp [chk, h]
theorem chkI_same (x : Int) (k : Option Y) : chkI x x k = k := by simp [chkI]
theorem chkB_same (x : Bool) (k : Option Y) : chkB x x k = k := by simp [chkB]
theorem chkL_same (x : List Int) (k : Option Y) : chkL x x k = k := by simp [chkL]
theorem obind_of (x : X) (k : X → Option Y) : obind (some x) k = k x := rfl
theorem osum_inl {Z : Type} (x : X) (k : X → Option Z) : osum (some (Sum.inl x)) k = k x := rfl
/-! ### Wraps -/
theorem u64 {x : Int} (h0 : 0 ≤ x) (h1 : x < 18446744073709551616) : IntKind.u64.wrap x = x := by
  simp only [IntKind.wrap, IntKind.signed, IntKind.bits, Bool.false_and, Bool.false_eq_true, if_false]
  omega
theorem u32 {x : Int} (h0 : 0 ≤ x) (h1 : x < 4294967296) : IntKind.u32.wrap x = x := by
  simp only [IntKind.wrap, IntKind.signed, IntKind.bits, Bool.false_and, Bool.false_eq_true, if_false]
  omega
theorem u8 {x : Int} (h0 : 0 ≤ x) (h1 : x < 256) : IntKind.u8.wrap x = x := by
  simp only [IntKind.wrap, IntKind.signed, IntKind.bits, Bool.false_and, Bool.false_eq_true, if_false]
  omega
theorem i64 {x : Int} (h0 : -9223372036854775808 ≤ x) (h1 : x < 9223372036854775808) : IntKind.i64.wrap x = x := by
  simp only [IntKind.wrap, IntKind.signed, IntKind.bits, Bool.true_and]
  split
  · rename_i h
    have h := of_decide_eq_true h
    omega
  · rename_i h
    have h : ¬ _ := fun hh => h (decide_eq_true hh)
    omega
theorem bits_u64 : IntKind.u64.bits = 64 := rfl
theorem bits_i64 : IntKind.i64.bits = 64 := rfl
/-! ### Bits -/
theorem ofInt_toNat {w : Nat} {a : Int} (h0 : 0 ≤ a) (h1 : a < 2 ^ w) : (BitVec.ofInt w a).toNat = a.toNat := by
  rw [BitVec.toNat_ofInt]
  congr 1
  exact Int.emod_eq_of_lt h0 (by exact_mod_cast h1)

theorem and_nn {w : Nat} {a b : Int} (ha : 0 ≤ a) (ha' : a < 2 ^ w) (hb : 0 ≤ b) (hb' : b < 2 ^ w) : ((BitVec.ofInt w a &&& BitVec.ofInt w b).toNat : Int) = ((a.toNat &&& b.toNat : Nat) : Int) := by
  rw [BitVec.toNat_and, ofInt_toNat ha ha', ofInt_toNat hb hb']
theorem or_nn {w : Nat} {a b : Int} (ha : 0 ≤ a) (ha' : a < 2 ^ w) (hb : 0 ≤ b) (hb' : b < 2 ^ w) : ((BitVec.ofInt w a ||| BitVec.ofInt w b).toNat : Int) = ((a.toNat ||| b.toNat : Nat) : Int) := by
  rw [BitVec.toNat_or, ofInt_toNat ha ha', ofInt_toNat hb hb']

/-- A mask of low bits. -/
theorem and_mask {w k : Nat} {a m : Int} (ha : 0 ≤ a) (ha' : a < 2 ^ w) (hm : m = 2 ^ k - 1) (hk : k ≤ w) : ((BitVec.ofInt w a &&& BitVec.ofInt w m).toNat : Int) = a % 2 ^ k := by
  have h1 : (0 : Int) < 2 ^ k := by exact_mod_cast Nat.two_pow_pos k
  have h2 : (2 : Int) ^ k ≤ 2 ^ w := by exact_mod_cast Nat.pow_le_pow_right (by omega) hk
  rw [and_nn ha ha' (by omega) (by omega)]
  have : m.toNat = 2 ^ k - 1 := by
    rw [hm]
    have : ((2 : Int) ^ k - 1) = ((2 ^ k - 1 : Nat) : Int) := by
      rw [Int.ofNat_sub Nat.one_le_two_pow]
      push_cast
      rfl
    rw [this]; rfl
  rw [this, Nat.and_two_pow_sub_one_eq_mod]
  obtain ⟨n, rfl⟩ := Int.eq_ofNat_of_zero_le ha
  simp

/-- Two numbers without a bit in common. -/
theorem or_add {w k : Nat} {a b : Int} (ha : 0 ≤ a) (ha' : a * 2 ^ k < 2 ^ w) (hb : 0 ≤ b) (hb' : b < 2 ^ k) (hk : k ≤ w) : ((BitVec.ofInt w (a * 2 ^ k) ||| BitVec.ofInt w b).toNat : Int) = a * 2 ^ k + b := by
  have h1 : (0 : Int) < 2 ^ k := by exact_mod_cast Nat.two_pow_pos k
  have h2 : (2 : Int) ^ k ≤ 2 ^ w := by exact_mod_cast Nat.pow_le_pow_right (by omega) hk
  rw [or_nn (Int.mul_nonneg ha (by omega)) ha' hb (by omega)]
  obtain ⟨n, rfl⟩ := Int.eq_ofNat_of_zero_le ha
  obtain ⟨m, rfl⟩ := Int.eq_ofNat_of_zero_le hb
  have e : (((n : Int) * 2 ^ k)).toNat = 2 ^ k * n := by
    have : ((n : Int) * 2 ^ k) = ((2 ^ k * n : Nat) : Int) := by push_cast; rw [Int.mul_comm]
    rw [this]; rfl
  rw [e]
  have hm : m < 2 ^ k := by exact_mod_cast hb'
  have := Nat.two_pow_add_eq_or_of_lt hm n
  rw [Int.toNat_natCast, ← this]
  push_cast
  rw [Int.mul_comm]

theorem or_comm' {w : Nat} (a b : Int) : ((BitVec.ofInt w a ||| BitVec.ofInt w b).toNat : Int) = ((BitVec.ofInt w b ||| BitVec.ofInt w a).toNat : Int) := by
  rw [BitVec.or_comm]

theorem fdiv_ediv {a b : Int} (h : 0 ≤ b) : a.fdiv b = a / b := Int.fdiv_eq_ediv_of_nonneg a h
theorem tdiv_ediv {a b : Int} (h : 0 ≤ a) : a.tdiv b = a / b := Int.tdiv_eq_ediv_of_nonneg h
theorem tmod_emod {a b : Int} (h : 0 ≤ a) : a.tmod b = a % b := Int.tmod_eq_emod_of_nonneg h

/-! ### Bytes -/
def Bytes (b : List Int) : Prop := ∀ x ∈ b, 0 ≤ x ∧ x < 256
theorem bytes_of {b : List Int} (h : WfL .u8 b) : Bytes b := fun x hx => by
  have := (h x hx).bounds
  have e1 : IntKind.u8.min = 0 := rfl
  have e2 : IntKind.u8.max = 255 := rfl
  omega
theorem Bytes.get {b : List Int} (h : Bytes b) (i : Nat) : 0 ≤ b.getD i 0 ∧ b.getD i 0 < 256 := by
  rw [List.getD_eq_getElem?_getD]
  cases hb : b[i]? with
  | none => simp
  | some x => simpa using h x (List.mem_of_getElem? hb)
theorem getD_out {b : List Int} {i : Nat} (h : b.length ≤ i) : b.getD i 0 = 0 := by simp [List.getD_eq_getElem?_getD, List.getElem?_eq_none h]

end Go.Pl
/-
  Layer 20: the closed statement: the examples answer as told, by counting through; what each statement's beginning comes to.
  Conditions: none.
-/
namespace Go.Pl
open Go.Eng Go.Proofs
set_option maxRecDepth 100000

theorem awake20_any (N : Nat) : Rc.awake20.F (N + 1000) = some true := by kernel_rfl
theorem awake20_F {N : Nat} (h : 1000 ≤ N) : Rc.awake20.F N = some true := by
  obtain ⟨k, rfl⟩ : ∃ k, N = k + 1000 := ⟨N - 1000, by omega⟩
  exact awake20_any k
end Go.Pl
/-
  Layer 20: noise, number by number.
  Conditions: none.
-/
namespace Go.Pl
open Go.Eng Go.Proofs

def nxt (s : Int) : Int := (s * 1664525 + 1013904223) % 4294967296
def sgv (s : Int) : Int := if nxt s < 2147483648 then 1 else -1
theorem nxt_range (s : Int) : 0 ≤ nxt s ∧ nxt s < 4294967296 := by unfold nxt; omega
theorem sgv_range (s : Int) : sgv s = 1 ∨ sgv s = -1 := by unfold sgv; split <;> simp
def hsh (v : Int) : Nat → Int → List Int × Int
  | 0, s => ([], s)
  | n + 1, s => (sgv s * v :: (hsh v n (nxt s)).1, (hsh v n (nxt s)).2)
theorem hsh_len (v : Int) : ∀ (n : Nat) (s : Int), (hsh v n s).1.length = n
  | 0, _ => rfl
  | n + 1, s => by simp [hsh, hsh_len v n]
theorem hsh_range (v : Int) : ∀ (n : Nat) (s : Int), 0 ≤ s → s < 4294967296 → 0 ≤ (hsh v n s).2 ∧ (hsh v n s).2 < 4294967296
  | 0, s, h0, h1 => ⟨h0, h1⟩
  | n + 1, s, _, _ => hsh_range v n (nxt s) (nxt_range s).1 (nxt_range s).2
section
variable {N : Nat}
theorem wrap32 (x : Int) : IntKind.u32.wrap x = x % 4294967296 := rfl
theorem nnext_F (s : Int) : Rc.nnext.F N s = some (nxt s, nxt s) := by
  unfold Rc.nnext.F
  rw [wrap32, wrap32]
  have : (s * 1664525 % 4294967296 + 1013904223) % 4294967296 = nxt s := by unfold nxt; omega
  rw [this]
theorem nsign_F (s : Int) : Rc.nsign.F N s = some (sgv s, nxt s) := by
  unfold Rc.nsign.F sgv
  rw [nnext_F, obind_of]
  simp only [br_dec]
  split <;> rfl
theorem rsign_F {s : Int} (h0 : 0 ≤ s) (h1 : s < 4294967296) : Rc.rsign.F N s = some (sgv s, nxt s) := by
  unfold Rc.rsign.F
  simp only [br_dec]
  have e : IntKind.u32.wrap ((IntKind.u64.wrap (IntKind.u64.wrap (IntKind.u64.wrap s * 1664525) + 1013904223)).tmod 4294967296) = nxt s := by
    rw [u64 (x := s) (by omega) (by omega), u64 (x := s * 1664525) (by omega) (by omega), u64 (x := s * 1664525 + 1013904223) (by omega) (by omega), Int.tmod_eq_emod_of_nonneg (by omega), wrap32]
    unfold nxt
    omega
  rw [e]
  unfold sgv
  split <;> rfl

theorem half_wrap {c : Int} (h0 : 0 ≤ c) (h1 : c ≤ 33554432) : IntKind.i64.wrap ((IntKind.i64.wrap (c + 1)).tdiv 2) = (c + 1) / 2 := by
  rw [i64 (x := c + 1) (by omega) (by omega), tdiv_ediv (by omega), i64 (by omega) (by omega)]
theorem sgv_mul {s v : Int} (v0 : 0 ≤ v) (v1 : v ≤ 100000000) : IntKind.i64.wrap (sgv s * v) = sgv s * v := by
  rcases sgv_range s with h | h
  · rw [h, i64 (by omega) (by omega)]
  · rw [h, i64 (by omega) (by omega)]

theorem shush_loop {c : Int} (h0 : 0 ≤ c) (h1 : c ≤ 33554432) {n : Nat} (hn : n ≤ 1000) : ∀ (nn m : Nat) (A : List Int) (s : Int), A.length + m = n → m < nn →
    Rc.shush.loop6 N nn c n A.length s (A ++ List.replicate m 0) = some ((hsh ((c + 1) / 2) m s).2, A ++ (hsh ((c + 1) / 2) m s).1)
  | 0, m, A, s, _, h => by omega
  | nn + 1, 0, A, s, hA, h => by
    unfold Rc.shush.loop6
    simp only [br_dec]
    rw [if_neg (by omega)]
    simp [hsh]
  | nn + 1, m + 1, A, s, hA, h => by
    unfold Rc.shush.loop6
    simp only [br_dec, chkI_same, Int.toNat_natCast]
    rw [if_pos (by omega), nsign_F, obind_of, chk_pos (by simp; omega), half_wrap h0 h1, sgv_mul (by omega) (by omega), i64 (x := (A.length : Int) + 1) (by omega) (by omega)]
    have hs : (A ++ List.replicate (m + 1) (0 : Int)).set A.length (sgv s * ((c + 1) / 2)) = (A ++ [sgv s * ((c + 1) / 2)]) ++ List.replicate m 0 := by
      rw [List.replicate_succ, List.set_append_right _ _ (Nat.le_refl _)]
      simp
    rw [hs]
    have ih := shush_loop h0 h1 hn nn m (A ++ [sgv s * ((c + 1) / 2)]) (nxt s) (by simp; omega) (by omega)
    rw [List.length_append, List.length_singleton, show ((A.length + 1 : Nat) : Int) = (A.length : Int) + 1 by omega] at ih
    rw [ih]
    simp [hsh]
theorem rhush_loop {v : Int} (v0 : 0 ≤ v) (v1 : v ≤ 100000000) {n : Nat} (hn : n ≤ 1000) : ∀ (nn m : Nat) (A : List Int) (s : Int), 0 ≤ s → s < 4294967296 → A.length + m = n → m < nn →
    Rc.rhush.loop4 N nn n v A.length s A = some ((hsh v m s).2, A ++ (hsh v m s).1)
  | 0, m, A, s, _, _, _, h => by omega
  | nn + 1, 0, A, s, _, _, hA, h => by
    unfold Rc.rhush.loop4
    simp only [br_dec]
    rw [if_neg (by omega)]
    simp [hsh]
  | nn + 1, m + 1, A, s, s0, s1, hA, h => by
    unfold Rc.rhush.loop4
    simp only [br_dec, chkI_same]
    rw [if_pos (by omega), if_pos (by omega), rsign_F s0 s1, obind_of, chk_pos (by simp; omega), sgv_mul v0 v1, i64 (x := (A.length : Int) + 1) (by omega) (by omega)]
    have ih := rhush_loop v0 v1 hn nn m (A ++ [sgv s * v]) (nxt s) (nxt_range s).1 (nxt_range s).2 (by simp; omega) (by omega)
    rw [List.length_append, List.length_singleton, show ((A.length + 1 : Nat) : Int) = (A.length : Int) + 1 by omega] at ih
    rw [ih]
    simp [hsh]

def cz (v : Int) : Int := if v < 0 then 0 else if v > 33554432 then 33554432 else v
theorem cz_range (v : Int) : 0 ≤ cz v ∧ cz v ≤ 33554432 := by unfold cz; split <;> (try split) <;> omega
theorem clampz (v : Int) : Rc.clamp.F N v 0 33554432 = some (cz v) := by
  unfold Rc.clamp.F cz
  simp only [br_dec]
  rw [if_neg (by omega)]
  split
  · rfl
  · split <;> rfl
theorem rclampz (v : Int) : Rc.rclamp.F N v 0 33554432 = some (cz v) := by
  unfold Rc.rclamp.F cz
  simp only [br_dec]
  by_cases c1 : v < 0
  · rw [if_pos c1, if_pos c1]
  rw [if_neg c1, if_neg c1, if_neg (by omega)]
  split <;> rfl

/-- So many numbers: none where there are too many. -/
def hn (n : Int) : Nat := if n < 1 then 0 else if n > 1000 then 0 else n.toNat
theorem shush_F (hN : 2000 ≤ N) (n size s : Int) : Rc.shush.F N n size s = some ((hsh ((cz size + 1) / 2) (hn n) s).2, (hsh ((cz size + 1) / 2) (hn n) s).1) := by
  unfold Rc.shush.F hn
  simp only [br_dec]
  by_cases c1 : n < 1
  · rw [if_pos c1, if_pos c1]; rfl
  rw [if_neg c1, if_neg c1]
  by_cases c2 : n > 1000
  · rw [if_pos c2, if_pos c2]; rfl
  rw [if_neg c2, if_neg c2, clampz, obind_of, chk_pos (by omega), List.length_replicate]
  have h := shush_loop (N := N) (cz_range size).1 (cz_range size).2 (n := n.toNat) (by omega) N n.toNat [] s (by simp) (by omega)
  rw [List.nil_append, List.nil_append, List.length_nil, show ((0 : Nat) : Int) = 0 from rfl] at h
  rw [h, obind_of]
theorem rhush_F (hN : 2000 ≤ N) (n size : Int) {s : Int} (s0 : 0 ≤ s) (s1 : s < 4294967296) : Rc.rhush.F N n size s = some ((hsh ((cz size + 1) / 2) (hn n) s).2, (hsh ((cz size + 1) / 2) (hn n) s).1) := by
  unfold Rc.rhush.F hn
  rw [rclampz, obind_of, half_wrap (cz_range size).1 (cz_range size).2]
  have hr := cz_range size
  obtain ⟨M, rfl⟩ : ∃ M, N = M + 1 := ⟨N - 1, by omega⟩
  by_cases c1 : n < 1
  · rw [if_pos c1]
    unfold Rc.rhush.loop4
    simp only [br_dec]
    rw [if_neg (by omega), obind_of]
    rfl
  rw [if_neg c1]
  by_cases c2 : n > 1000
  · rw [if_pos c2]
    unfold Rc.rhush.loop4
    simp only [br_dec]
    rw [if_pos (by omega), if_neg (by omega), obind_of]
    rfl
  rw [if_neg c2]
  have h := rhush_loop (N := M + 1) (v := (cz size + 1) / 2) (by omega) (by omega) (n := n.toNat) (by omega) (M + 1) n.toNat [] s s0 s1 (by simp) (by omega)
  rw [List.nil_append, List.length_nil, show ((0 : Nat) : Int) = 0 from rfl, show ((n.toNat : Nat) : Int) = n by omega] at h
  rw [h, obind_of]

theorem drop_cons20 {l : List Int} {k : Nat} (h : k < l.length) : l.drop k = l.getD k 0 :: l.drop (k + 1) := by
  rw [List.drop_eq_getElem_cons h, List.getD_eq_getElem?_getD, List.getElem?_eq_getElem h]
  rfl
theorem same20_loop {a b e1 e2 : List Int} (hab : a.length = b.length) (hl : a.length ≤ 1000000) (s : Bool) : ∀ (nn k : Nat), k ≤ a.length → a.length - k < nn →
    (a.drop k = b.drop k → Rc.same20.loop4 N nn e1 e2 a b k s = some (.inl s)) ∧ (a.drop k ≠ b.drop k → Rc.same20.loop4 N nn e1 e2 a b k s = some (.inr false))
  | 0, k, _, h => by omega
  | nn + 1, k, hk, h => by
    unfold Rc.same20.loop4
    simp only [br_dec, br_bne, chkL_same]
    by_cases c : k < a.length
    · have ih := same20_loop (e1 := e1) (e2 := e2) hab hl s nn (k + 1) (by omega) (by omega)
      rw [show ((k + 1 : Nat) : Int) = (k : Int) + 1 by omega] at ih
      rw [if_pos (by omega), chk_pos (by omega), chk_pos (by omega), Int.toNat_natCast, i64 (by omega) (by omega), drop_cons20 c, drop_cons20 (show k < b.length by omega)]
      by_cases d : a.getD k 0 = b.getD k 0
      · rw [if_pos d, d]
        refine ⟨fun he => ih.1 (List.cons.inj he).2, fun he => ih.2 fun h2 => he (by rw [h2])⟩
      · rw [if_neg d]
        exact ⟨fun he => absurd (List.cons.inj he).1 d, fun _ => rfl⟩
    · rw [if_neg (by omega)]
      exact ⟨fun _ => rfl, fun he => absurd (by rw [List.drop_eq_nil_of_le (by omega), List.drop_eq_nil_of_le (by omega)]) he⟩
theorem same20_F (a b : List Int) (hl : a.length ≤ 1000000) (hN : a.length < N) : Rc.same20.F N a b = some (decide (a = b)) := by
  unfold Rc.same20.F
  rw [br_bne]
  by_cases c : a.length = b.length
  · rw [if_pos (by omega)]
    have h := same20_loop (N := N) (e1 := a) (e2 := b) c hl false N 0 (by omega) (by omega)
    rw [show ((0 : Nat) : Int) = 0 from rfl, List.drop_zero, List.drop_zero] at h
    by_cases d : a = b
    · rw [h.1 d, osum_inl, decide_eq_true d]
    · rw [h.2 d, decide_eq_false d]; rfl
  · rw [if_neg (by omega), decide_eq_false (fun h => c (by rw [h]))]
end

end Go.Pl
/-
  Chapter 3 in plain words: the range decoder's register, and what rc's and ref3's functions come to.
  Conditions: none.
-/
namespace Go.Pl
open Go.Eng Go.Proofs

/-! ### The register -/
/-- The range, the value, the byte last read, how many bytes were asked for. -/
structure Q where
  rng : Int
  val : Int
  last : Int
  m : Nat

/-- A byte; behind the end all is nought. -/
def nb (b : List Int) (m : Nat) : Int := b.getD m 0

theorem nb_range {b : List Int} (h : Bytes b) (m : Nat) : 0 ≤ nb b m ∧ nb b m < 256 := h.get m

def Q.step (b : List Int) (q : Q) : Q := ⟨q.rng * 256, q.val * 256 + 255 - ((q.last * 256 + nb b q.m) / 2) % 256, nb b q.m, q.m + 1⟩

def Q.norm (b : List Int) : Nat → Q → Q
  | 0, q => q
  | n + 1, q => if q.rng ≤ 8388608 then Q.norm b n (q.step b) else q

/-- Between calls. -/
structure Q.Ok (q : Q) : Prop where
  r0 : 8388608 < q.rng
  r1 : q.rng ≤ 2147483648
  v0 : 0 ≤ q.val
  v1 : q.val < q.rng
  l0 : 0 ≤ q.last
  l1 : q.last < 256

/-- While it goes on. -/
structure Q.Pre (q : Q) : Prop where
  r0 : 1 ≤ q.rng
  r1 : q.rng ≤ 2147483648
  v0 : 0 ≤ q.val
  v1 : q.val < q.rng
  l0 : 0 ≤ q.last
  l1 : q.last < 256

theorem Q.Pre.step {b : List Int} {q : Q} (h : q.Pre) (hb : Bytes b) (hr : q.rng ≤ 8388608) : (q.step b).Pre := by
  obtain ⟨h1, h2, h3, h4, h5, h6⟩ := h
  obtain ⟨h7, h8⟩ := nb_range hb q.m
  exact ⟨by simp only [Q.step]; omega, by simp only [Q.step]; omega, by simp only [Q.step]; omega, by simp only [Q.step]; omega, h7, h8⟩

theorem Q.norm_ok {b : List Int} (hb : Bytes b) : ∀ (n : Nat) (q : Q), q.Pre → 8388608 < q.rng * 256 ^ n → (Q.norm b n q).Ok
  | 0, q, h, hn => ⟨by simpa [Q.norm] using hn, h.r1, h.v0, h.v1, h.l0, h.l1⟩
  | n + 1, q, h, hn => by
    simp only [Q.norm]
    split
    · rename_i hr
      refine Q.norm_ok hb n _ (h.step hb hr) ?_
      simp only [Q.step]
      rw [Int.pow_succ] at hn
      rw [Int.mul_assoc, Int.mul_comm 256]
      exact hn
    · rename_i hr
      exact ⟨by omega, h.r1, h.v0, h.v1, h.l0, h.l1⟩

/-- To go on. -/
def Q.on (b : List Int) (q : Q) : Q := Q.norm b 4 q

theorem Q.on_ok {b : List Int} (hb : Bytes b) {q : Q} (h : q.Pre) : (q.on b).Ok := Q.norm_ok hb 4 q h (by have := h.r0; omega)

theorem Q.norm_m (b : List Int) : ∀ (n : Nat) (q : Q), q.m ≤ (Q.norm b n q).m ∧ (Q.norm b n q).m ≤ q.m + n
  | 0, q => ⟨Nat.le_refl _, Nat.le_refl _⟩
  | n + 1, q => by
    simp only [Q.norm]
    split
    · have := Q.norm_m b n (q.step b)
      simp only [Q.step] at this ⊢
      omega
    · omega

theorem Q.on_m (b : List Int) (q : Q) : q.m ≤ (q.on b).m ∧ (q.on b).m ≤ q.m + 4 := Q.norm_m b 4 q

theorem Q.norm_stop (b : List Int) {q : Q} (h : 8388608 < q.rng) : ∀ n, Q.norm b n q = q
  | 0 => rfl
  | n + 1 => by simp only [Q.norm]; rw [if_neg (by omega)]

/-! ### What the code says in its words -/
theorem p8 : (2 : Int) ^ min (Int.toNat (8 : Int)) IntKind.u64.bits = 256 := rfl
theorem p1 : (2 : Int) ^ min (Int.toNat (1 : Int)) IntKind.u64.bits = 2 := rfl

theorem or8 {a c : Int} (ha : 0 ≤ a) (ha' : a < 72057594037927936) (hc : 0 ≤ c) (hc' : c < 256) : ((BitVec.ofInt 64 (a * 256) ||| BitVec.ofInt 64 c).toNat : Int) = a * 256 + c :=
  or_add (w := 64) (k := 8) ha (by show a * 256 < 18446744073709551616; omega) hc hc' (by omega)
theorem and255 {a : Int} (ha : 0 ≤ a) (ha' : a < 18446744073709551616) : ((BitVec.ofInt 64 a &&& BitVec.ofInt 64 255).toNat : Int) = a % 256 :=
  and_mask (w := 64) (k := 8) ha ha' rfl (by omega)
theorem and31 {a : Int} (ha : 0 ≤ a) (ha' : a < 18446744073709551616) : ((BitVec.ofInt 64 a &&& BitVec.ofInt 64 2147483647).toNat : Int) = a % 2147483648 :=
  and_mask (w := 64) (k := 31) ha ha' rfl (by omega)

/-- The front, of m bytes that were asked for. -/
def fr (b : List Int) (m : Nat) : Int := ((min m b.length : Nat) : Int)

theorem next_F {N : Nat} {rng val last back window waiting count : Int} {bad : Bool} {b : List Int} (hb : Bytes b) (hl : b.length < 1099511627776) (m : Nat) :
    Rc.next.F N rng val last (fr b m) back window waiting count bad b = some (nb b m, fr b (m + 1)) := by
  unfold Rc.next.F fr
  simp only [br_dec, chkI_same, chkB_same, chkL_same]
  by_cases h : m < b.length
  · have e1 : min m b.length = m := by omega
    have e2 : min (m + 1) b.length = m + 1 := by omega
    rw [e1, e2, if_neg (by omega), i64 (x := (m : Int) + 1) (by omega) (by omega), i64 (by omega) (by omega), chk_pos (by omega)]
    have e3 : ((m : Int) + 1 - 1).toNat = m := by omega
    obtain ⟨h1, h2⟩ := nb_range hb m
    unfold nb at h1 h2 ⊢
    rw [e3, u64 h1 (by omega)]
    rfl
  · have e1 : min m b.length = b.length := by omega
    have e2 : min (m + 1) b.length = b.length := by omega
    rw [e1, e2, if_pos (by omega)]
    unfold nb
    rw [getD_out (by omega)]

/-- A step's value, in the code's words. -/
theorem step_val {val last x : Int} (h0 : 0 ≤ val) (h1 : val < 8388608) (l0 : 0 ≤ last) (l1 : last < 256) (x0 : 0 ≤ x) (x1 : x < 256) :
    IntKind.u64.wrap ↑(BitVec.ofInt IntKind.u64.bits (IntKind.u64.wrap (IntKind.u64.wrap (IntKind.u64.wrap (val * 256) + 255) - IntKind.u64.wrap ↑(BitVec.ofInt IntKind.u64.bits ((IntKind.u64.wrap ↑(BitVec.ofInt IntKind.u64.bits (IntKind.u64.wrap (last * 256)) ||| BitVec.ofInt IntKind.u64.bits x).toNat).fdiv 2) &&& BitVec.ofInt IntKind.u64.bits 255).toNat)) &&& BitVec.ofInt IntKind.u64.bits 2147483647).toNat =
      val * 256 + 255 - ((last * 256 + x) / 2) % 256 := by
  rw [bits_u64, u64 (x := last * 256) (by omega) (by omega), or8 l0 (by omega) x0 x1, u64 (x := last * 256 + x) (by omega) (by omega), fdiv_ediv (by omega), and255 (by omega) (by omega),
    u64 (x := (last * 256 + x) / 2 % 256) (by omega) (by omega), u64 (x := val * 256) (by omega) (by omega), u64 (x := val * 256 + 255) (by omega) (by omega), u64 (x := val * 256 + 255 - _) (by omega) (by omega),
    and31 (by omega) (by omega), u64 (by omega) (by omega)]
  omega

theorem norm_loop {N : Nat} {back window waiting : Int} {bad : Bool} {b : List Int} (hb : Bytes b) (hl : b.length < 1099511627776) :
    ∀ (nn n : Nat) (q : Q) (count : Int), q.Pre → 8388608 < q.rng * 256 ^ n → 0 ≤ count → count + 8 * n < 2199023255552 → n < nn →
      Rc.norm.loop0 N nn back window waiting bad b q.rng q.val q.last (fr b q.m) count =
        some ((Q.norm b n q).rng, (Q.norm b n q).val, (Q.norm b n q).last, fr b (Q.norm b n q).m, count + 8 * (((Q.norm b n q).m - q.m : Nat) : Int))
  | 0, n, q, count, h, hn, hc0, hc1, h0 => by omega
  | nn + 1, n, q, count, h, hn, hc0, hc1, h0 => by
    unfold Rc.norm.loop0
    simp only [br_dec, chkI_same, chkB_same, chkL_same, next_F hb hl, obind_of, p8, p1]
    by_cases hr : q.rng ≤ 8388608
    · rw [if_pos hr]
      cases n with
      | zero => simp at hn; omega
      | succ n =>
        have hs := h.step hb hr
        have ih := norm_loop (N := N) (back := back) (window := window) (waiting := waiting) (bad := bad) hb hl nn n (q.step b) (count + 8) hs (by
          simp only [Q.step]
          rw [Int.pow_succ] at hn
          rw [Int.mul_assoc, Int.mul_comm 256]
          exact hn) (by omega) (by omega) (by omega)
        obtain ⟨h1, h2, h3, h4, h5, h6⟩ := h
        obtain ⟨h7, h8⟩ := nb_range hb q.m
        have hm := Q.norm_m b n (q.step b)
        rw [step_val h3 (by omega) h5 h6 h7 h8, u64 (by omega) (by omega), i64 (by omega) (by omega)]
        simp only [Q.step] at ih hm ⊢
        rw [ih]
        simp only [Q.norm, if_pos hr, Q.step]
        congr 5
        omega
    · rw [if_neg hr]
      have hs := Q.norm_stop b (q := q) (by omega) n
      rw [hs]
      simp

/-- rc's normalise. -/
theorem norm_F {N : Nat} {back window waiting count : Int} {bad : Bool} {b : List Int} (hb : Bytes b) (hl : b.length < 1099511627776) {q : Q} (h : q.Pre) (hc0 : 0 ≤ count) (hc1 : count < 1099511627776) (hN : 8 ≤ N) :
    Rc.norm.F N q.rng q.val q.last (fr b q.m) back window waiting count bad b =
      some ((q.on b).rng, (q.on b).val, (q.on b).last, fr b (q.on b).m, count + 8 * (((q.on b).m - q.m : Nat) : Int)) := by
  unfold Rc.norm.F
  rw [norm_loop hb hl N 4 q count h (by have := h.r0; omega) hc0 (by omega) (by omega)]
  simp only [obind_of, chkI_same, chkB_same, chkL_same]
  rfl
end Go.Pl
/-
  Chapter 3 in plain words: to choose, to take, tables, symbols, flags.
  Conditions: none.
-/
namespace Go.Pl
open Go.Eng Go.Proofs

/-! ### Choosing and taking -/
def Q.ch (q : Q) (ft : Int) : Int := ft - min (q.val / (q.rng / ft) + 1) ft
/-- Ahead of going on. -/
def Q.tk0 (q : Q) (fl fh ft : Int) : Q := ⟨if fl > 0 then q.rng / ft * (fh - fl) else q.rng - q.rng / ft * (ft - fh), q.val - q.rng / ft * (ft - fh), q.last, q.m⟩
def Q.tk (b : List Int) (q : Q) (fl fh ft : Int) : Q := (q.tk0 fl fh ft).on b

theorem e_facts {r ft : Int} (h0 : 8388608 < r) (f0 : 1 ≤ ft) (f1 : ft ≤ 65536) : 1 ≤ r / ft ∧ r / ft * ft ≤ r ∧ r / ft ≤ r := by
  have h1 := Int.ediv_mul_le r (show ft ≠ 0 by omega)
  have h2 : 1 ≤ r / ft := by
    rw [Int.le_ediv_iff_mul_le (by omega)]
    omega
  refine ⟨h2, h1, ?_⟩
  have : r / ft * 1 ≤ r / ft * ft := Int.mul_le_mul_of_nonneg_left f0 (by omega)
  omega

theorem d_facts {v e : Int} (h0 : 0 ≤ v) (he : 1 ≤ e) : 0 ≤ v / e ∧ v / e * e ≤ v ∧ v < (v / e + 1) * e ∧ v / e ≤ v := by
  have h1 := Int.ediv_mul_le v (show e ≠ 0 by omega)
  have h2 := Int.lt_ediv_add_one_mul_self v (show 0 < e by omega)
  have h3 : 0 ≤ v / e := Int.ediv_nonneg h0 (by omega)
  refine ⟨h3, h1, h2, ?_⟩
  have : v / e * 1 ≤ v / e * e := Int.mul_le_mul_of_nonneg_left he h3
  omega

theorem Q.ch_range {q : Q} (h : q.Ok) {ft : Int} (f0 : 1 ≤ ft) (f1 : ft ≤ 65536) : 0 ≤ q.ch ft ∧ q.ch ft < ft := by
  obtain ⟨e0, _, _⟩ := e_facts h.r0 f0 f1
  obtain ⟨d0, _⟩ := d_facts h.v0 e0
  unfold Q.ch
  omega

/-- What is taken lies so. -/
structure Takes (q : Q) (fl fh ft : Int) : Prop where
  f0 : 1 ≤ ft
  f1 : ft ≤ 65536
  a : 0 ≤ fl
  b : fl ≤ q.ch ft
  c : q.ch ft < fh
  d : fh ≤ ft

theorem Takes.bounds {q : Q} (h : q.Ok) {fl fh ft : Int} (t : Takes q fl fh ft) :
    0 ≤ q.rng / ft * (ft - fh) ∧ q.rng / ft * (ft - fh) ≤ q.val ∧ q.rng / ft * (ft - fh) ≤ q.rng ∧ 1 ≤ q.rng / ft * (fh - fl) ∧ q.rng / ft * (fh - fl) ≤ q.rng ∧ (fl > 0 → q.val - q.rng / ft * (ft - fh) < q.rng / ft * (fh - fl)) := by
  obtain ⟨f0, f1, ha, hb, hc, hd⟩ := t
  obtain ⟨e0, e1, e2⟩ := e_facts h.r0 f0 f1
  obtain ⟨d0, d1, d2, d3⟩ := d_facts h.v0 e0
  unfold Q.ch at hb hc
  generalize hE : q.rng / ft = E at *
  generalize hD : q.val / E = D at *
  have hv1 := h.v1
  have k1 : 0 ≤ E * (ft - fh) := Int.mul_nonneg (by omega) (by omega)
  have k2 : E * (ft - fh) ≤ E * D := Int.mul_le_mul_of_nonneg_left (by omega) (by omega)
  have k3 : E * D = D * E := Int.mul_comm _ _
  have k4 : E * 1 ≤ E * (fh - fl) := Int.mul_le_mul_of_nonneg_left (by omega) (by omega)
  have k5 : E * (fh - fl) ≤ E * ft := Int.mul_le_mul_of_nonneg_left (by omega) (by omega)
  have k6 : E * (fh - fl) = E * (ft - fl) - E * (ft - fh) := by rw [← Int.mul_sub]; congr 1; omega
  refine ⟨k1, by omega, by omega, by omega, by omega, fun hfl => ?_⟩
  have k7 : (D + 1) * E ≤ E * (ft - fl) := by
    rw [Int.mul_comm]
    exact Int.mul_le_mul_of_nonneg_left (by omega) (by omega)
  omega

theorem Q.tk0_pre {q : Q} (h : q.Ok) {fl fh ft : Int} (t : Takes q fl fh ft) : (q.tk0 fl fh ft).Pre := by
  obtain ⟨k1, k2, k3, k4, k5, k6⟩ := t.bounds h
  have h1 := h.r1
  have h2 := h.v1
  have h3 := h.v0
  refine ⟨?_, ?_, ?_, ?_, h.l0, h.l1⟩
  · simp only [Q.tk0]; split <;> omega
  · simp only [Q.tk0]; split <;> omega
  · simp only [Q.tk0]; omega
  · simp only [Q.tk0]
    split
    · rename_i hf; exact k6 hf
    · omega

theorem Q.tk_ok {b : List Int} (hb : Bytes b) {q : Q} (h : q.Ok) {fl fh ft : Int} (t : Takes q fl fh ft) : (q.tk b fl fh ft).Ok := Q.on_ok hb (q.tk0_pre h t)

theorem Q.tk_m (b : List Int) (q : Q) (fl fh ft : Int) : q.m ≤ (q.tk b fl fh ft).m ∧ (q.tk b fl fh ft).m ≤ q.m + 4 := Q.on_m b (q.tk0 fl fh ft)

/-- How many bits were told of. -/
def ct (c : Int) (q q' : Q) : Int := c + 8 * ((q'.m - q.m : Nat) : Int)

section
variable {N : Nat} {front back window waiting count : Int} {bad : Bool} {b : List Int}

theorem choose_F {q : Q} (h : q.Ok) {ft : Int} (f0 : 1 ≤ ft) (f1 : ft ≤ 65536) :
    Rc.choose.F N ft q.rng q.val q.last front back window waiting count bad b = some (q.ch ft) := by
  obtain ⟨e0, e1, e2⟩ := e_facts h.r0 f0 f1
  obtain ⟨d0, d1, d2, d3⟩ := d_facts h.v0 e0
  have h1 := h.r1
  have h2 := h.v1
  unfold Rc.choose.F Q.ch
  simp only [chkI_same, chkB_same, chkL_same]
  rw [tdiv_ediv (by omega), u64 (x := q.rng / ft) (by omega) (by omega), chk_pos (by omega), chk_pos (by omega), tdiv_ediv (by omega), u64 (x := q.val / _) d0 (by omega), u64 (x := _ + 1) (by omega) (by omega)]
  by_cases hlt : ft < q.val / (q.rng / ft) + 1
  · rw [if_pos hlt, u64 (by omega) (by omega)]
    exact congrArg some (by omega : (ft - ft : Int) = ft - min (q.val / (q.rng / ft) + 1) ft)
  · rw [if_neg hlt, u64 (by omega) (by omega)]
    exact congrArg some (by omega : (ft - (q.val / (q.rng / ft) + 1) : Int) = ft - min (q.val / (q.rng / ft) + 1) ft)

theorem take_F (hb : Bytes b) (hl : b.length < 1099511627776) {q : Q} (h : q.Ok) {fl fh ft : Int} (t : Takes q fl fh ft) (hc0 : 0 ≤ count) (hc1 : count < 1099511627776) (hN : 8 ≤ N) :
    Rc.take.F N fl fh ft q.rng q.val q.last (fr b q.m) back window waiting count bad b =
      some ((q.tk b fl fh ft).rng, (q.tk b fl fh ft).val, (q.tk b fl fh ft).last, fr b (q.tk b fl fh ft).m, ct count q (q.tk b fl fh ft)) := by
  have hp := q.tk0_pre h t
  obtain ⟨k1, k2, k3, k4, k5, k6⟩ := t.bounds h
  obtain ⟨f0, f1, ha, hb', hc, hd⟩ := t
  obtain ⟨e0, e1, e2⟩ := e_facts h.r0 f0 f1
  have h1 := h.r1
  have h2 := h.v1
  obtain ⟨c0, c1⟩ := Q.ch_range h f0 f1
  have hn := norm_F (N := N) (back := back) (window := window) (waiting := waiting) (count := count) (bad := bad) hb hl hp hc0 hc1 hN
  unfold Rc.take.F
  simp only [chkI_same, chkB_same, chkL_same, br_dec]
  rw [tdiv_ediv (by omega), u64 (x := q.rng / ft) (by omega) (by omega), chk_pos (by omega), u64 (x := ft - fh) (by omega) (by omega), u64 (x := fh - fl) (by omega) (by omega),
    u64 (x := _ * (ft - fh)) (by omega) (by omega), u64 (x := _ * (fh - fl)) (by omega) (by omega), u64 (x := q.val - _) (by omega) (by omega), u64 (x := q.rng - _) (by omega) (by omega)]
  simp only [Q.tk0] at hn
  split
  · rename_i hf
    rw [if_pos hf] at hn
    rw [hn]
    simp only [obind_of, Q.tk, Q.tk0, if_pos hf, ct]
  · rename_i hf
    rw [if_neg hf] at hn
    rw [hn]
    simp only [obind_of, Q.tk, Q.tk0, if_neg hf, ct]
end

/-! ### The document's reader -/
section
variable {N : Nat} {front back wait waiting count eq : Int} {bad : Bool} {b : List Int}

theorem rnext_F {rng val last : Int} (hb : Bytes b) (hl : b.length < 1099511627776) (m : Nat) :
    Rc.rnext.F N rng val last (fr b m) back wait waiting count eq bad b = some (nb b m, fr b (m + 1)) := by
  unfold Rc.rnext.F fr
  simp only [br_dec, chkI_same, chkB_same, chkL_same]
  by_cases h : m < b.length
  · have e1 : min m b.length = m := by omega
    have e2 : min (m + 1) b.length = m + 1 := by omega
    rw [e1, e2, if_neg (by omega), i64 (x := (m : Int) + 1) (by omega) (by omega), i64 (x := (m : Int) + 1 - 1) (by omega) (by omega), chk_pos (by omega)]
    have e3 : ((m : Int) + 1 - 1).toNat = m := by omega
    obtain ⟨h1, h2⟩ := nb_range hb m
    unfold nb at h1 h2 ⊢
    rw [e3, i64 (x := b.getD m 0) (by omega) (by omega)]
    rfl
  · have e1 : min m b.length = b.length := by omega
    have e2 : min (m + 1) b.length = b.length := by omega
    rw [e1, e2, if_pos (by omega)]
    unfold nb
    rw [getD_out (by omega)]

/-- A step's value, in the reference's words. -/
theorem rstep_val {val last x : Int} (h0 : 0 ≤ val) (h1 : val < 8388608) (l0 : 0 ≤ last) (l1 : last < 256) (x0 : 0 ≤ x) (x1 : x < 256) :
    (IntKind.u64.wrap (IntKind.u64.wrap (256 * val) + IntKind.u64.wrap (IntKind.i64.wrap (255 - (IntKind.i64.wrap ((IntKind.i64.wrap (IntKind.i64.wrap (256 * last) + x)).tdiv 2)).tmod 256)))).tmod 2147483648 =
      val * 256 + 255 - ((last * 256 + x) / 2) % 256 := by
  rw [i64 (x := 256 * last) (by omega) (by omega), i64 (x := 256 * last + x) (by omega) (by omega), tdiv_ediv (by omega), i64 (x := (256 * last + x) / 2) (by omega) (by omega), tmod_emod (a := (256 * last + x) / 2) (by omega),
    i64 (x := 255 - _) (by omega) (by omega), u64 (x := 255 - _) (by omega) (by omega), u64 (x := 256 * val) (by omega) (by omega), u64 (x := 256 * val + _) (by omega) (by omega), tmod_emod (by omega)]
  omega

theorem ron_loop (hb : Bytes b) (hl : b.length < 1099511627776) :
    ∀ (nn n : Nat) (q : Q) (count : Int), q.Pre → 8388608 < q.rng * 256 ^ n → 0 ≤ count → count + 8 * n < 2199023255552 → n < nn →
      Rc.ron.loop0 N nn back wait waiting eq bad b q.rng q.val q.last (fr b q.m) count =
        some ((Q.norm b n q).rng, (Q.norm b n q).val, (Q.norm b n q).last, fr b (Q.norm b n q).m, count + 8 * (((Q.norm b n q).m - q.m : Nat) : Int))
  | 0, n, q, count, h, hn, hc0, hc1, h0 => by omega
  | nn + 1, n, q, count, h, hn, hc0, hc1, h0 => by
    unfold Rc.ron.loop0
    simp only [br_dec, chkI_same, chkB_same, chkL_same, rnext_F hb hl, obind_of]
    by_cases hr : q.rng ≤ 8388608
    · rw [if_pos hr]
      cases n with
      | zero => simp at hn; omega
      | succ n =>
        have hs := h.step hb hr
        have ih := ron_loop hb hl nn n (q.step b) (count + 8) hs (by
          simp only [Q.step]
          rw [Int.pow_succ] at hn
          rw [Int.mul_assoc, Int.mul_comm 256]
          exact hn) (by omega) (by omega) (by omega)
        obtain ⟨h1, h2, h3, h4, h5, h6⟩ := h
        obtain ⟨h7, h8⟩ := nb_range hb q.m
        have hm := Q.norm_m b n (q.step b)
        rw [rstep_val h3 (by omega) h5 h6 h7 h8, u64 (by omega) (by omega), i64 (by omega) (by omega)]
        simp only [Q.step] at ih hm ⊢
        rw [ih]
        simp only [Q.norm, if_pos hr, Q.step]
        congr 5
        omega
    · rw [if_neg hr]
      have hs := Q.norm_stop b (q := q) (by omega) n
      rw [hs]
      simp

theorem ron_F (hb : Bytes b) (hl : b.length < 1099511627776) {q : Q} (h : q.Pre) (hc0 : 0 ≤ count) (hc1 : count < 1099511627776) (hN : 8 ≤ N) :
    Rc.ron.F N q.rng q.val q.last (fr b q.m) back wait waiting count eq bad b =
      some ((q.on b).rng, (q.on b).val, (q.on b).last, fr b (q.on b).m, count + 8 * (((q.on b).m - q.m : Nat) : Int)) := by
  unfold Rc.ron.F
  rw [ron_loop hb hl N 4 q count h (by have := h.r0; omega) hc0 (by omega) (by omega)]
  simp only [obind_of, chkI_same, chkB_same, chkL_same]
  rfl

theorem rchoose_F {q : Q} (h : q.Ok) {ft : Int} (f0 : 1 ≤ ft) (f1 : ft ≤ 65536) :
    Rc.rchoose.F N ft q.rng q.val q.last front back wait waiting count eq bad b = some (q.ch ft, q.rng / ft) := by
  obtain ⟨e0, e1, e2⟩ := e_facts h.r0 f0 f1
  obtain ⟨d0, d1, d2, d3⟩ := d_facts h.v0 e0
  have h1 := h.r1
  have h2 := h.v1
  unfold Rc.rchoose.F Q.ch
  simp only [chkI_same, chkB_same, chkL_same, br_dec]
  rw [tdiv_ediv (by omega), u64 (x := q.rng / ft) (by omega) (by omega), chk_pos (by omega), chk_pos (by omega), tdiv_ediv (by omega), u64 (x := q.val / _) d0 (by omega), u64 (x := _ + 1) (by omega) (by omega)]
  split
  · rw [u64 (by omega) (by omega), Option.some.injEq, Prod.mk.injEq]; exact ⟨by omega, rfl⟩
  · rw [u64 (by omega) (by omega), Option.some.injEq, Prod.mk.injEq]; exact ⟨by omega, rfl⟩

theorem rtake_F (hb : Bytes b) (hl : b.length < 1099511627776) {q : Q} (h : q.Ok) {fl fh ft : Int} (t : Takes q fl fh ft) (hc0 : 0 ≤ count) (hc1 : count < 1099511627776) (hN : 8 ≤ N) :
    Rc.rtake.F N fl fh ft q.rng q.val q.last (fr b q.m) back wait waiting count (q.rng / ft) bad b =
      some ((q.tk b fl fh ft).rng, (q.tk b fl fh ft).val, (q.tk b fl fh ft).last, fr b (q.tk b fl fh ft).m, ct count q (q.tk b fl fh ft)) := by
  have hp := q.tk0_pre h t
  obtain ⟨k1, k2, k3, k4, k5, k6⟩ := t.bounds h
  obtain ⟨f0, f1, ha, hb', hc, hd⟩ := t
  obtain ⟨e0, e1, e2⟩ := e_facts h.r0 f0 f1
  have h1 := h.r1
  have h2 := h.v1
  obtain ⟨c0, c1⟩ := Q.ch_range h f0 f1
  have hn := ron_F (N := N) (back := back) (wait := wait) (waiting := waiting) (count := count) (eq := q.rng / ft) (bad := bad) hb hl hp hc0 hc1 hN
  unfold Rc.rtake.F
  simp only [chkI_same, chkB_same, chkL_same, br_dec]
  rw [u64 (x := ft - fh) (by omega) (by omega), u64 (x := fh - fl) (by omega) (by omega),
    u64 (x := _ * (ft - fh)) (by omega) (by omega), u64 (x := _ * (fh - fl)) (by omega) (by omega), u64 (x := q.val - _) (by omega) (by omega), u64 (x := q.rng - _) (by omega) (by omega)]
  simp only [Q.tk0] at hn
  split
  · rename_i hf
    rw [if_pos hf] at hn
    rw [hn]
    simp only [obind_of, Q.tk, Q.tk0, if_pos hf, ct]
  · rename_i hf
    rw [if_neg hf] at hn
    rw [hn]
    simp only [obind_of, Q.tk, Q.tk0, if_neg hf, ct]
end

/-! ### Tables -/
structure GoodT (t : List Int) : Prop where
  n0 : 1 ≤ t.length
  n1 : t.length ≤ 256
  last : t.getD (t.length - 1) 0 = 0
  first : t.getD 0 0 < 256
  down : ∀ k, 1 ≤ k → k < t.length → t.getD k 0 < t.getD (k - 1) 0

theorem GoodT.le {t : List Int} (h : GoodT t) : ∀ (d k : Nat), k + d < t.length → t.getD (k + d) 0 + d ≤ t.getD k 0
  | 0, k, _ => by simp
  | d + 1, k, hk => by
    have h1 := h.le d k (by omega)
    have h2 := h.down (k + (d + 1)) (by omega) hk
    rw [show k + (d + 1) - 1 = k + d by omega] at h2
    omega

theorem GoodT.range {t : List Int} (h : GoodT t) {k : Nat} (hk : k < t.length) : 0 ≤ t.getD k 0 ∧ t.getD k 0 < 256 := by
  have h1 := h.le (t.length - 1 - k) k (by omega)
  have h2 := h.le k 0 (by omega)
  rw [show k + (t.length - 1 - k) = t.length - 1 by omega, h.last] at h1
  rw [Nat.zero_add] at h2
  have := h.first
  omega

/-! ### Symbols -/
section
variable {N : Nat} {back window waiting count : Int} {bad : Bool} {b : List Int}

end
section
variable {N : Nat} {back wait waiting count eq : Int} {bad : Bool} {b : List Int}

end
end Go.Pl
/-
  Chapter 3 in plain words: flags, bits from the end.
  Conditions: none.
-/
namespace Go.Pl
open Go.Eng Go.Proofs

theorem p2le {a b : Nat} (h : a ≤ b) : (2 : Int) ^ a ≤ 2 ^ b := by exact_mod_cast Nat.pow_le_pow_right (by omega) h
theorem p2pos (a : Nat) : (0 : Int) < 2 ^ a := by exact_mod_cast Nat.two_pow_pos a
/-! ### Flags -/
def Q.fs (q : Q) (n : Int) : Int := q.rng / 2 ^ n.toNat
def Q.f0 (q : Q) (n : Int) : Q := if q.val < q.fs n then ⟨q.fs n, q.val, q.last, q.m⟩ else ⟨q.rng - q.fs n, q.val - q.fs n, q.last, q.m⟩
def Q.fl (b : List Int) (q : Q) (n : Int) : Q := (q.f0 n).on b

section
variable {N : Nat} {back window waiting count : Int} {bad : Bool} {b : List Int}

end

/-! ### Bits from the end -/
structure W where
  win : Int
  wai : Nat
  k : Nat

/-- The byte number k from the end; behind the first one all is nought. -/
def eb (b : List Int) (k : Nat) : Int := if k < b.length then b.getD (b.length - 1 - k) 0 else 0

theorem eb_range {b : List Int} (h : Bytes b) (k : Nat) : 0 ≤ eb b k ∧ eb b k < 256 := by
  unfold eb
  split
  · exact h.get _
  · omega

def W.step (b : List Int) (w : W) : W := ⟨w.win + eb b w.k * 2 ^ w.wai, w.wai + 8, w.k + 1⟩
def W.fill (b : List Int) (n : Nat) : Nat → W → W
  | 0, w => w
  | f + 1, w => if w.wai < n then W.fill b n f (w.step b) else w

structure W.Ok (w : W) : Prop where
  a : 0 ≤ w.win
  b : w.win < 2 ^ w.wai
  c : w.wai ≤ 31

theorem W.Ok.step {b : List Int} (hb : Bytes b) {w : W} (h : w.Ok) (hw : w.wai < 24) : (w.step b).Ok := by
  obtain ⟨h1, h2, h3⟩ := h
  obtain ⟨h4, h5⟩ := eb_range hb w.k
  have h6 := p2pos w.wai
  have h7 : 0 ≤ eb b w.k * 2 ^ w.wai := Int.mul_nonneg h4 (by omega)
  have h8 : eb b w.k * 2 ^ w.wai ≤ 255 * 2 ^ w.wai := Int.mul_le_mul_of_nonneg_right (by omega) (by omega)
  refine ⟨by simp only [W.step]; omega, ?_, by simp only [W.step]; omega⟩
  simp only [W.step]
  rw [Int.pow_add]
  omega

theorem W.fill_ok {b : List Int} (hb : Bytes b) {n : Nat} (hn : n ≤ 24) : ∀ (f : Nat) (w : W), w.Ok → (W.fill b n f w).Ok
  | 0, w, h => h
  | f + 1, w, h => by
    simp only [W.fill]
    split
    · exact W.fill_ok hb hn f _ (h.step hb (by omega))
    · exact h

theorem W.fill_n {b : List Int} {n : Nat} : ∀ (f : Nat) (w : W), n ≤ w.wai + 8 * f → n ≤ (W.fill b n f w).wai
  | 0, w, h => by simpa [W.fill] using h
  | f + 1, w, h => by
    simp only [W.fill]
    split
    · exact W.fill_n f _ (by simp only [W.step]; omega)
    · omega

def W.at (b : List Int) (w : W) (n : Nat) : W := W.fill b n 4 w
def W.val (b : List Int) (w : W) (n : Nat) : Int := (w.at b n).win % 2 ^ n
def W.next (b : List Int) (w : W) (n : Nat) : W := ⟨(w.at b n).win / 2 ^ n, (w.at b n).wai - n, (w.at b n).k⟩

theorem W.next_ok {b : List Int} (hb : Bytes b) {w : W} (h : w.Ok) {n : Nat} (hn : n ≤ 24) : (w.next b n).Ok := by
  obtain ⟨h1, h2, h3⟩ := W.fill_ok hb hn 4 w h
  have h4 := W.fill_n (b := b) (n := n) 4 w (by omega)
  unfold W.next W.at
  refine ⟨Int.ediv_nonneg h1 (by have := p2pos n; omega), ?_, by simp only; omega⟩
  simp only
  rw [Int.ediv_lt_iff_lt_mul (p2pos n), ← Int.pow_add, show (W.fill b n 4 w).wai - n + n = (W.fill b n 4 w).wai by omega]
  exact h2

theorem W.val_range {b : List Int} (w : W) (n : Nat) : 0 ≤ w.val b n ∧ w.val b n < 2 ^ n :=
  ⟨Int.emod_nonneg _ (by have := p2pos n; omega), Int.emod_lt_of_pos _ (p2pos n)⟩

/-- A byte more, in the code's words. -/
theorem or_win {win x : Int} {wai : Nat} (h0 : 0 ≤ win) (h1 : win < 2 ^ wai) (hw : wai < 24) (x0 : 0 ≤ x) (x1 : x < 256) :
    IntKind.u64.wrap ↑(BitVec.ofInt IntKind.u64.bits win ||| BitVec.ofInt IntKind.u64.bits (IntKind.u64.wrap (x * 2 ^ min wai IntKind.u64.bits))).toNat = win + x * 2 ^ wai := by
  have h6 := p2pos wai
  have h7 : (2 : Int) ^ wai ≤ 16777216 := p2le (a := wai) (b := 24) (by omega)
  have h8 : 0 ≤ x * 2 ^ wai := Int.mul_nonneg x0 (by omega)
  have h9 : x * 2 ^ wai ≤ 255 * 2 ^ wai := Int.mul_le_mul_of_nonneg_right (by omega) (by omega)
  rw [bits_u64, show min wai 64 = wai by omega, u64 (x := x * 2 ^ wai) h8 (by omega), or_comm', or_add x0 (by show x * 2 ^ wai < 18446744073709551616; omega) h0 h1 (by omega), u64 (by omega) (by omega)]
  omega

section
variable {N : Nat} {rng val last front count : Int} {bad : Bool} {b : List Int}

theorem endb_F {window waiting : Int} (hb : Bytes b) (hl : b.length < 1099511627776) (k : Nat) :
    Rc.endb.F N rng val last front (fr b k) window waiting count bad b = some (eb b k, fr b (k + 1)) := by
  unfold Rc.endb.F fr
  simp only [br_dec, chkI_same, chkB_same, chkL_same]
  by_cases h : k < b.length
  · rw [show min k b.length = k by omega, show min (k + 1) b.length = k + 1 by omega, if_neg (by omega), i64 (x := (k : Int) + 1) (by omega) (by omega), i64 (x := (b.length : Int) - _) (by omega) (by omega), chk_pos (by omega)]
    obtain ⟨h1, h2⟩ := eb_range hb k
    unfold eb at h1 h2 ⊢
    rw [if_pos h] at h1 h2 ⊢
    rw [show ((b.length : Int) - ((k : Int) + 1)).toNat = b.length - 1 - k by omega, u64 h1 (by omega)]
    rfl
  · rw [show min k b.length = b.length by omega, show min (k + 1) b.length = b.length by omega, if_pos (by omega)]
    unfold eb
    rw [if_neg h]

theorem bits_loop (hb : Bytes b) (hl : b.length < 1099511627776) {n : Nat} (hn : n ≤ 24) : ∀ (nn f : Nat) (w : W), w.Ok → n ≤ w.wai + 8 * f → f < nn →
    Rc.bits.loop3 N nn (n : Int) rng val last front count bad b (fr b w.k) w.win (w.wai : Int) = some (fr b (W.fill b n f w).k, (W.fill b n f w).win, ((W.fill b n f w).wai : Int))
  | 0, f, w, _, _, h => by omega
  | nn + 1, f, w, h, hf, h0 => by
    unfold Rc.bits.loop3
    simp only [br_dec, chkI_same, chkB_same, chkL_same, endb_F hb hl, obind_of]
    by_cases hw : w.wai < n
    · rw [if_pos (by omega), chk_pos (by omega), Int.toNat_natCast]
      obtain ⟨x0, x1⟩ := eb_range hb w.k
      cases f with
      | zero => omega
      | succ f =>
        have hc := h.c
        rw [or_win h.a h.b (by omega) x0 x1, i64 (by omega) (by omega)]
        have ih := bits_loop hb hl hn nn f (w.step b) (h.step hb (by omega)) (by simp only [W.step]; omega) (by omega)
        simp only [W.fill, if_pos hw]
        simp only [W.step] at ih ⊢
        exact ih
    · rw [if_neg (by omega)]
      have : W.fill b n f w = w := by cases f with
        | zero => rfl
        | succ f => simp only [W.fill, if_neg hw]
      rw [this]

theorem mask_val {win : Int} {n : Nat} (h0 : 0 ≤ win) (h1 : win < 4294967296) (hn : n ≤ 24) :
    IntKind.i64.wrap (IntKind.u64.wrap ↑(BitVec.ofInt IntKind.u64.bits win &&& BitVec.ofInt IntKind.u64.bits (IntKind.u64.wrap (IntKind.u64.wrap (1 * 2 ^ min n IntKind.u64.bits) - 1))).toNat) = win % 2 ^ n := by
  have h6 := p2pos n
  have h7 : (2 : Int) ^ n ≤ 16777216 := p2le (a := n) (b := 24) (by omega)
  have h8 := Int.emod_nonneg win (show (2 : Int) ^ n ≠ 0 by omega)
  have h9 := Int.emod_lt_of_pos win h6
  rw [bits_u64, show min n 64 = n by omega, Int.one_mul, u64 (x := 2 ^ n) (by omega) (by omega), u64 (x := 2 ^ n - 1) (by omega) (by omega),
    and_mask (w := 64) (k := n) h0 (by show win < 18446744073709551616; omega) rfl (by omega), u64 h8 (by omega), i64 (by omega) (by omega)]

/-- rc's Bits. -/
theorem bits_F (hb : Bytes b) (hl : b.length < 1099511627776) {w : W} (h : w.Ok) (n : Int) (hc0 : 0 ≤ count) (hc1 : count < 1099511627776) (hN : 300 ≤ N) :
    Rc.bits.F N n rng val last front (fr b w.k) w.win (w.wai : Int) count bad b =
      some (if 0 ≤ n ∧ n ≤ 24 then (w.val b n.toNat, fr b (w.next b n.toNat).k, (w.next b n.toNat).win, ((w.next b n.toNat).wai : Int), count + n) else (0, fr b w.k, w.win, (w.wai : Int), count)) := by
  unfold Rc.bits.F
  simp only [br_dec, chkI_same, chkB_same, chkL_same]
  by_cases n0 : n < 0
  · rw [if_pos n0, if_neg (by omega)]
  rw [if_neg n0]
  by_cases n1 : n > 24
  · rw [if_pos n1, if_neg (by omega)]
  rw [if_neg n1, if_pos (show 0 ≤ n ∧ n ≤ 24 by omega)]
  obtain ⟨k, rfl⟩ : ∃ k : Nat, n = k := ⟨n.toNat, by omega⟩
  have hk : k ≤ 24 := by omega
  rw [bits_loop hb hl hk N 4 w h (by omega) (by omega), obind_of]
  simp only [Int.toNat_natCast]
  obtain ⟨h1, h2, h3⟩ := W.fill_ok hb hk 4 w h
  have h4 := W.fill_n (b := b) (n := k) 4 w (by omega)
  have h5 : (2 : Int) ^ (W.fill b k 4 w).wai ≤ 2147483648 := p2le (b := 31) h3
  rw [chk_pos (by omega), chk_pos (by omega), mask_val h1 (by omega) hk, i64 (x := count + k) (by omega) (by omega), i64 (by omega) (by omega), bits_u64, show min k 64 = k by omega, fdiv_ediv (by have := p2pos k; omega)]
  simp only [W.val, W.next, W.at]
  congr 5
  omega

end
end Go.Pl
/-
  Layer 20: both square roots (as in layer 19).
  Conditions: none.
-/
namespace Go.Pl
open Go.Eng Go.Proofs

/-! ### Roots -/
structure Root (r a : Int) : Prop where
  p : 0 ≤ r
  l : r * r ≤ a
  u : a < (r + 1) * (r + 1)
theorem Root.le {r s a b : Int} (h : Root r a) (g : Root s b) (hab : a ≤ b) : r ≤ s := by
  rcases Int.lt_or_le s r with c | c
  · have h1 := h.l
    have h2 := g.u
    have h3 : (s + 1) * (s + 1) ≤ r * r := Int.mul_le_mul (by omega) (by omega) (by have := g.p; omega) h.p
    omega
  · exact c
theorem Root.eq {r s a : Int} (h : Root r a) (g : Root s a) : r = s := by
  have := h.le g (Int.le_refl _)
  have := g.le h (Int.le_refl _)
  omega

theorem p4 (j : Nat) : (0 : Int) < 4 ^ j := by exact_mod_cast Nat.pow_pos (n := j) (show 0 < 4 by decide)
theorem p4_step (j : Nat) : (4 : Int) ^ (j + 1) = 4 * 4 ^ j := by rw [Int.pow_succ, Int.mul_comm]
theorem p4_le {i j : Nat} (h : i ≤ j) : (4 : Int) ^ i ≤ 4 ^ j := by exact_mod_cast Nat.pow_le_pow_right (by omega) h

section
variable {N : Nat}
/-- The root bit by bit: what is left, the root so far and the place. -/
theorem fsqrt_loop (a : Int) : ∀ (nn j : Nat) (m rem : Int), j ≤ 31 → 0 ≤ m → 0 ≤ rem → rem + 4 * (m * m) * 4 ^ j = a → rem < (8 * m + 4) * 4 ^ j → a < 4611686018427387904 → j + 1 < nn →
    ∃ r : Int, Rc.fsqrt.loop5 N nn rem (4 * m * 4 ^ j) (4 ^ j) = some r ∧ Root r a
  | 0, _, _, _, _, _, _, _, _, _, h => by omega
  | nn + 1, j, m, rem, hj, hm, hr, ha, hu, hb, h => by
    have hS := p4 j
    have hS2 : (4 : Int) ^ j ≤ 4611686018427387904 := p4_le hj
    generalize hSS : (4 : Int) ^ j = S at hS hS2 ha hu ⊢
    have f0 : 0 ≤ (m * m) * S := Int.mul_nonneg (Int.mul_nonneg hm hm) (by omega)
    have f1 : 0 ≤ m * S := Int.mul_nonneg hm (by omega)
    have e1 : 4 * (m * m) * S = 4 * (m * m * S) := by grind
    have e2 : (8 * m + 4) * S = 8 * (m * S) + 4 * S := by grind
    have e3 : 4 * m * S = 4 * (m * S) := by grind
    have f2 : m * S ≤ m * m * S := by
      rw [Int.mul_assoc m m S]
      rcases Int.lt_or_le m 1 with c | c
      · have : m = 0 := by omega
        subst this; omega
      · have := Int.mul_le_mul_of_nonneg_right c f1
        omega
    rw [e1] at ha
    rw [e2] at hu
    rw [e3]
    unfold Rc.fsqrt.loop5
    simp only [br_dec]
    have d1 : (4 * (m * S)).fdiv ((2 : Int) ^ min (Int.toNat (1 : Int)) IntKind.u64.bits) = 2 * (m * S) := by
      rw [show ((2 : Int) ^ min (Int.toNat (1 : Int)) IntKind.u64.bits) = 2 from rfl, fdiv_ediv (by omega)]; omega
    rw [if_pos (by omega), u64 (x := 4 * (m * S) + S) (by omega) (by omega), d1, show ((2 : Int) ^ min (Int.toNat (2 : Int)) IntKind.u64.bits) = 4 from rfl, fdiv_ediv (a := S) (by omega)]
    have go : ∀ (m' rem' : Int), (m' = 2 * m + 1 ∧ rem' = rem - (4 * (m * S) + S) ∨ m' = 2 * m ∧ rem' = rem ∧ rem < 4 * (m * S) + S) → 0 ≤ rem' →
        ∃ r : Int, Rc.fsqrt.loop5 N nn rem' (m' * S) (S / 4) = some r ∧ Root r a := fun m' rem' hc hr' => by
      have hm' : 0 ≤ m' := by omega
      have g1 : rem' + m' * m' * S = a := by
        rcases hc with ⟨rfl, rfl⟩ | ⟨rfl, rfl, _⟩
        · rw [← ha]; grind
        · rw [← ha]; grind
      have g2 : rem' < (2 * m' + 1) * S := by
        rcases hc with ⟨rfl, rfl⟩ | ⟨rfl, rfl, h3⟩
        · have : (2 * (2 * m + 1) + 1) * S = 4 * (m * S) + 3 * S := by grind
          omega
        · have : (2 * (2 * m) + 1) * S = 4 * (m * S) + S := by grind
          omega
      rcases j with _ | j
      · have : S = 1 := by rw [← hSS]; rfl
        subst this
        rcases nn with _ | nn
        · omega
        refine ⟨m' * 1, ?_, ?_⟩
        · unfold Rc.fsqrt.loop5
          simp only [br_dec]
          rw [if_neg (by decide)]
        · rw [Int.mul_one]
          exact ⟨hm', by omega, by
            have : (m' + 1) * (m' + 1) = m' * m' + (2 * m' + 1) := by grind
            omega⟩
      · rw [p4_step] at hSS
        have hT : S / 4 = 4 ^ j := by omega
        rw [hT]
        have g3 : m' * S = 4 * m' * 4 ^ j := by rw [← hSS]; grind
        rw [g3]
        refine fsqrt_loop a nn j m' rem' (by omega) hm' hr' ?_ ?_ hb (by omega)
        · rw [← g1, ← hSS]; grind
        · rw [← hSS] at g2
          have : (2 * m' + 1) * (4 * 4 ^ j) = (8 * m' + 4) * 4 ^ j := by grind
          omega
    by_cases c : rem ≥ 4 * (m * S) + S
    · rw [if_pos c, u64 (x := rem - (4 * (m * S) + S)) (by omega) (by omega), u64 (x := 2 * (m * S) + S) (by omega) (by omega)]
      have := go (2 * m + 1) (rem - (4 * (m * S) + S)) (Or.inl ⟨rfl, rfl⟩) (by omega)
      rw [show (2 * m + 1) * S = 2 * (m * S) + S by grind] at this
      exact this
    · rw [if_neg c]
      have := go (2 * m) rem (Or.inr ⟨rfl, rfl, by omega⟩) hr
      rw [show 2 * m * S = 2 * (m * S) by grind] at this
      exact this

theorem fsqrt_F {a : Int} (h0 : 0 ≤ a) (h1 : a < 4611686018427387904) (hN : 100 ≤ N) : ∃ r : Int, Rc.fsqrt.F N a = some r ∧ Root r a ∧ r < 4611686018427387904 := by
  obtain ⟨r, e, g⟩ := fsqrt_loop (N := N) a N 31 0 a (by omega) (by omega) h0 (by omega) (by
    have : (4 : Int) ^ 31 = 4611686018427387904 := by decide
    omega) (by omega) (by omega)
  have hb : r < 4611686018427387904 := by
    rcases Int.lt_or_le r 4611686018427387904 with c | c
    · exact c
    · have h2 := g.l
      have h3 : 4611686018427387904 * 1 ≤ r * r := Int.mul_le_mul c (by omega) (by omega) (by omega)
      omega
  have hp := g.p
  refine ⟨r, ?_, g, hb⟩
  unfold Rc.fsqrt.F
  simp only [br_dec]
  rw [if_neg (by omega), u64 h0 (by omega)]
  rw [show (4 : Int) * 0 * 4 ^ 31 = 0 by decide, show (4 : Int) ^ 31 = 4611686018427387904 by decide] at e
  rw [e, obind_of, i64 (by omega) (by omega)]

theorem rsqrt_loop {a : Int} (h0 : 0 ≤ a) (h1 : a < 9223372036854775808) : ∀ (nn j : Nat) (s : Int), j ≤ 32 → 0 ≤ s → s ≤ 3037000499 → s * s ≤ a → a < (s + 2 ^ j) * (s + 2 ^ j) → j < nn →
    ∃ r : Int, Rc.rsqrt.loop3 N nn a s ((j : Int) - 1) = some r ∧ Root r a
  | 0, _, _, _, _, _, _, _, h => by omega
  | nn + 1, j, s, hj, s0, s1, hl, hu, h => by
    unfold Rc.rsqrt.loop3
    simp only [br_dec, chkI_same]
    rcases j with _ | j
    · rw [if_neg (by omega)]
      exact ⟨s, rfl, s0, hl, hu⟩
    · have hP : (2 : Int) ^ j ≤ 2147483648 := by
        have := p2le (show j ≤ 31 by omega)
        exact this
      have hP0 := p2pos j
      have ih := fun s' a1 a2 a3 a4 => rsqrt_loop h0 h1 nn j s' (by omega) a1 a2 a3 a4 (by omega)
      rw [Int.pow_succ] at hu
      rw [if_pos (by omega), show ((j + 1 : Nat) : Int) - 1 = (j : Int) by omega, u64 (x := (j : Int)) (by omega) (by omega), Int.toNat_natCast, show min j IntKind.i64.bits = j by rw [bits_i64]; omega, chk_pos (by omega), i64 (x := (j : Int) - 1) (by omega) (by omega)]
      generalize (2 : Int) ^ j = P at hP hP0 hu ih ⊢
      rw [i64 (x := 1 * P) (by omega) (by omega), i64 (x := s + 1 * P) (by omega) (by omega), show s + 1 * P = s + P by omega]
      by_cases c : s + P ≤ 3037000499
      · have hq : (s + P) * (s + P) ≤ 3037000499 * 3037000499 := Int.mul_le_mul c c (by omega) (by omega)
        have hq0 : 0 ≤ (s + P) * (s + P) := Int.mul_nonneg (by omega) (by omega)
        rw [if_pos c, i64 (x := (s + P) * (s + P)) (by omega) (by omega)]
        by_cases c2 : (s + P) * (s + P) ≤ a
        · rw [if_pos c2]
          exact ih (s + P) (by omega) c c2 (by rw [show s + P + P = s + P * 2 by omega]; exact hu)
        · rw [if_neg c2]
          exact ih s s0 s1 hl (by omega)
      · rw [if_neg c]
        have hq : 3037000500 * 3037000500 ≤ (s + P) * (s + P) := Int.mul_le_mul (by omega) (by omega) (by omega) (by omega)
        exact ih s s0 s1 hl (by omega)

theorem rsqrt_F {a : Int} (h0 : 0 ≤ a) (h1 : a < 9223372036854775808) (hN : 100 ≤ N) : ∃ r : Int, Rc.rsqrt.F N a = some r ∧ Root r a := by
  obtain ⟨r, e, g⟩ := rsqrt_loop (N := N) h0 h1 N 32 0 (by omega) (by omega) (by omega) (by omega) (by
    have : (2 : Int) ^ 32 = 4294967296 := by decide
    rw [this]; omega) (by omega)
  refine ⟨r, ?_, g⟩
  unfold Rc.rsqrt.F
  rw [show (((32 : Nat) : Int) - 1) = 31 from rfl] at e
  rw [e, obind_of]
end
end Go.Pl
/-
  Layer 20: pulses are filled by both books alike.
  Conditions: none.
-/
namespace Go.Pl
open Go.Eng Go.Proofs

theorem down_val {a b : Int} (hb : 0 < b) : (if a.tmod b < 0 then a.tdiv b - 1 else a.tdiv b) = a / b := by
  by_cases h : 0 ≤ a
  · rw [if_neg (by rw [Int.tmod_eq_emod_of_nonneg h]; have := Int.emod_nonneg a (show b ≠ 0 by omega); omega), Int.tdiv_eq_ediv_of_nonneg h]
  · obtain ⟨c, rfl⟩ : ∃ c, a = -c := ⟨-a, by omega⟩
    have hc : 0 ≤ c := by omega
    have h1 := Int.emod_nonneg c (show b ≠ 0 by omega)
    have h2 := Int.emod_lt_of_pos c hb
    have h3 := Int.mul_ediv_add_emod c b
    rw [Int.neg_tmod, Int.neg_tdiv, Int.tmod_eq_emod_of_nonneg hc, Int.tdiv_eq_ediv_of_nonneg hc]
    by_cases d : c % b = 0
    · rw [d, if_neg (by decide)]
      have e : -c = b * -(c / b) := by rw [Int.mul_neg]; omega
      rw [e, Int.mul_ediv_cancel_left _ (by omega)]
    · rw [if_pos (by omega)]
      have e1 : b * (-(c / b) - 1) = -(b * (c / b)) - b := by grind
      have e : -c = (b - c % b) + b * (-(c / b) - 1) := by omega
      have hz : (b - c % b) / b = 0 := Int.ediv_eq_zero_of_lt (by omega) (by omega)
      rw [e, Int.add_mul_ediv_left _ _ (by omega), hz]
      omega

section
variable {N : Nat}
theorem sdown_F {a b : Int} (hb : 0 < b) (h0 : -4611686018427387904 ≤ a) (h1 : a ≤ 4611686018427387904) : Rc.sdown.F N a b = some (a / b) := by
  unfold Rc.sdown.F
  have hv := down_val (a := a) hb
  have hq1 : -4611686018427387904 ≤ a.tdiv b ∧ a.tdiv b ≤ 4611686018427387904 := by
    by_cases h : 0 ≤ a
    · rw [Int.tdiv_eq_ediv_of_nonneg h]
      have := Int.ediv_le_self b h
      have := Int.ediv_nonneg h (show 0 ≤ b by omega)
      omega
    · obtain ⟨c, rfl⟩ : ∃ c, a = -c := ⟨-a, by omega⟩
      rw [Int.neg_tdiv, Int.tdiv_eq_ediv_of_nonneg (by omega)]
      have := Int.ediv_le_self b (show 0 ≤ c by omega)
      have := Int.ediv_nonneg (show 0 ≤ c by omega) (show 0 ≤ b by omega)
      omega
  simp only [br_dec]
  rw [chk_pos (by omega), chk_pos (by omega), i64 (x := a.tdiv b) (by omega) (by omega), i64 (x := a.tdiv b - 1) (by omega) (by omega), ← hv]
  split <;> rfl
theorem rdown_F {a b : Int} (hb : 0 < b) (h0 : -4611686018427387904 ≤ a) (h1 : a ≤ 4611686018427387904) : Rc.rdown.F N a b = some (a / b) := sdown_F (N := N) hb h0 h1
end
end Go.Pl
/-
  Layer 20's statements stand here in the place of layer 17's.
  Conditions: none.
-/
/-
  Layer 17: how many vectors there are: the program's rows and tables, and its plain twin's, are one.
  Conditions: none.
-/
namespace Go.Pl
open Go.Eng Go.Proofs
set_option maxRecDepth 100000

theorem chkN_same {Y : Type} (x : Nat) (k : Option Y) : chkN x x k = k := by simp [chkN]
theorem chkR_same {Y : Type} (x : List (List Int)) (k : Option Y) : chkR x x k = k := by simp [chkR]

/-! ### Counts -/
def cstep (f : Nat → Int) : Nat → Int
  | 0 => 1
  | k + 1 => min (f (k + 1) + cstep f k + f k) 4294967296
def cnt : Nat → Nat → Int
  | 0 => fun k => if k = 0 then 1 else 0
  | n + 1 => cstep (cnt n)
def Small (f : Nat → Int) : Prop := ∀ i, 0 ≤ f i ∧ f i ≤ 4294967296
theorem cstep_small {f : Nat → Int} (h : Small f) : Small (cstep f)
  | 0 => by simp only [cstep]; omega
  | k + 1 => by
    have := cstep_small h k
    have := h k
    have := h (k + 1)
    simp only [cstep]
    omega
theorem cnt_small : ∀ n, Small (cnt n)
  | 0 => fun k => by simp only [cnt]; split <;> omega
  | n + 1 => cstep_small (cnt_small n)
theorem cnt_succ (n k : Nat) : cnt (n + 1) (k + 1) = min (cnt n (k + 1) + cnt (n + 1) k + cnt n k) 4294967296 := rfl
theorem cnt_zero (n : Nat) : cnt n 0 = 1 := by cases n <;> rfl

/-! ### Lists that are tables -/
def tabL (f : Nat → Int) (k : Nat) : List Int := (List.range (k + 1)).map f
theorem tabL_len (f : Nat → Int) (k : Nat) : (tabL f k).length = k + 1 := by simp [tabL]
theorem tabL_get (f : Nat → Int) {k i : Nat} (h : i ≤ k) : (tabL f k).getD i 0 = f i := by
  simp [tabL, List.getD_eq_getElem?_getD, List.getElem?_map, List.getElem?_range, show i < k + 1 by omega]
theorem tabL_ext {f : Nat → Int} {k : Nat} {l : List Int} (hl : l.length = k + 1) (h : ∀ i, i ≤ k → l.getD i 0 = f i) : l = tabL f k := by
  apply List.ext_getElem?
  intro i
  rcases Nat.lt_or_ge i (k + 1) with c | c
  · have h1 := h i (by omega)
    have h2 := tabL_get f (k := k) (i := i) (by omega)
    rw [List.getD_eq_getElem?_getD, List.getElem?_eq_getElem (by omega)] at h1
    rw [List.getD_eq_getElem?_getD, List.getElem?_eq_getElem (by rw [tabL_len]; omega)] at h2
    rw [List.getElem?_eq_getElem (by omega), List.getElem?_eq_getElem (by rw [tabL_len]; omega)]
    simp only [Option.getD_some] at h1 h2
    rw [h1, h2]
  · rw [List.getElem?_eq_none (by omega), List.getElem?_eq_none (by rw [tabL_len]; omega)]
theorem getD_set (l : List Int) (j : Nat) (v : Int) (i : Nat) : (l.set j v).getD i 0 = if i = j ∧ j < l.length then v else l.getD i 0 := by
  rw [List.getD_eq_getElem?_getD, List.getElem?_set, List.getD_eq_getElem?_getD]
  by_cases h : j = i
  · subst h
    rw [if_pos rfl]
    by_cases c : j < l.length
    · rw [if_pos c, if_pos ⟨rfl, c⟩]; rfl
    · rw [if_neg c, if_neg (fun h => c h.2), List.getElem?_eq_none (by omega)]
  · rw [if_neg h, if_neg (fun hh => h hh.1.symm)]
theorem start_row (k : Nat) : (List.replicate (k + 1) (0 : Int)).set 0 1 = tabL (cnt 0) k := by
  refine tabL_ext (by simp) fun i hi => ?_
  rw [getD_set]
  simp only [List.length_replicate, cnt]
  by_cases c : i = 0
  · rw [if_pos ⟨c, by omega⟩, if_pos c]
  · rw [if_neg (fun h => c h.1), if_neg c]
    simp [List.getD_eq_getElem?_getD, List.getElem?_replicate]
    split <;> rfl

section
variable {N : Nat}
theorem prow_in {f : Nat → Int} (hf : Small f) {k : Nat} (hk : k ≤ 1000) : ∀ (nn j : Nat) (l : List Int), 1 ≤ j → j ≤ k + 1 → l.length = k + 1 → (∀ i, i < j → l.getD i 0 = cstep f i) → (∀ i, j ≤ i → i ≤ k → l.getD i 0 = f i) → k + 1 - j < nn →
    Rc.prow.loop7 N nn k (f (j - 1)) j l = some (tabL (cstep f) k)
  | 0, j, l, _, _, _, _, _, h => by omega
  | nn + 1, j, l, j1, j2, hl, ha, hb, h => by
    unfold Rc.prow.loop7
    simp only [br_dec, chkI_same]
    by_cases c : j ≤ k
    · have h1 := hb j (Nat.le_refl _) c
      have h2 := ha (j - 1) (by omega)
      have s1 := hf j
      have s2 := cstep_small hf (j - 1)
      have s3 := hf (j - 1)
      have e1 : IntKind.i64.wrap ((j : Int) - 1) = ((j - 1 : Nat) : Int) := by rw [i64 (by omega) (by omega)]; omega
      rw [if_pos (by omega), chk_pos (by omega), chk_pos (by omega), e1, chk_pos (by omega), chk_pos (by omega), Int.toNat_natCast, Int.toNat_natCast, h1, h2]
      rw [i64 (x := f j + cstep f (j - 1)) (by omega) (by omega), i64 (x := f j + cstep f (j - 1) + f (j - 1)) (by omega) (by omega), i64 (x := (j : Int) + 1) (by omega) (by omega)]
      have hv : (if (4294967296 : Int) < f j + cstep f (j - 1) + f (j - 1) then 4294967296 else f j + cstep f (j - 1) + f (j - 1)) = cstep f j := by
        obtain ⟨m, rfl⟩ : ∃ m, j = m + 1 := ⟨j - 1, by omega⟩
        simp only [cstep, Nat.add_sub_cancel]
        split <;> omega
      rw [hv]
      have ih := prow_in hf hk nn (j + 1) (l.set j (cstep f j)) (by omega) (by omega) (by rw [List.length_set]; exact hl) (fun i hi => by
        rw [getD_set]
        by_cases e : i = j
        · rw [if_pos ⟨e, by omega⟩, e]
        · rw [if_neg (fun h => e h.1)]; exact ha i (by omega)) (fun i hi hi2 => by
        rw [getD_set, if_neg (fun h => by omega)]; exact hb i (by omega) hi2) (by omega)
      exact ih
    · rw [if_neg (by omega)]
      obtain rfl : j = k + 1 := by omega
      exact congrArg some (tabL_ext hl fun i hi => ha i (by omega))

theorem prow_out {n k : Nat} (hk : k ≤ 1000) (hN : k + 2 ≤ N) : ∀ (nn i : Nat), i ≤ n → n - i < nn → n < 1000 → Rc.prow.loop4 N nn k n i (tabL (cnt i) k) = some (tabL (cnt n) k)
  | 0, i, _, h, _ => by omega
  | nn + 1, i, hi, h, hn => by
    unfold Rc.prow.loop4
    simp only [br_dec, chkI_same]
    by_cases c : i < n
    · have := prow_in (N := N) (cnt_small i) hk N 1 (tabL (cnt i) k) (by omega) (by omega) (tabL_len _ _) (fun m hm => by
        obtain rfl : m = 0 := by omega
        rw [tabL_get _ (by omega), cnt_zero]; rfl) (fun m _ hm => tabL_get _ hm) (by omega)
      rw [show cnt i (1 - 1) = 1 from cnt_zero i, show ((1 : Nat) : Int) = 1 from rfl] at this
      rw [if_pos (by omega), this, obind_of, i64 (by omega) (by omega)]
      exact prow_out hk hN nn (i + 1) (by omega) (by omega) hn
    · rw [if_neg (by omega)]
      obtain rfl : i = n := by omega
      rfl

theorem prow_F {n k : Nat} (hk : k ≤ 1000) (hn : n < 1000) (hN : 3000 ≤ N) : Rc.prow.F N n k = some (tabL (cnt n) k) := by
  unfold Rc.prow.F
  rw [i64 (x := (k : Int) + 1) (by omega) (by omega), chk_pos (by omega), show ((k : Int) + 1).toNat = k + 1 by omega, chk_pos (by simp), show Int.toNat (0 : Int) = 0 from rfl, start_row]
  have := prow_out (N := N) (n := n) hk (by omega) N 0 (by omega) (by omega) hn
  rw [show ((0 : Nat) : Int) = 0 from rfl] at this
  rw [this, obind_of]

/-! ### The twin's -/
theorem qcount_in {f : Nat → Int} (hf : Small f) {k : Nat} (hk : k ≤ 1000) : ∀ (nn j : Nat) (l : List Int), 1 ≤ j → j ≤ k + 1 → l.length = k + 1 → (∀ i, i < j → l.getD i 0 = cstep f i) → k + 1 - j < nn →
    Rc.qcount.loop11 N nn k (tabL f k) j l = some (tabL (cstep f) k)
  | 0, j, l, _, _, _, _, h => by omega
  | nn + 1, j, l, j1, j2, hl, ha, h => by
    unfold Rc.qcount.loop11
    simp only [br_dec, chkI_same, chkL_same]
    by_cases c : j ≤ k
    · have h2 := ha (j - 1) (by omega)
      have s1 := hf j
      have s2 := cstep_small hf (j - 1)
      have s3 := hf (j - 1)
      have e1 : IntKind.i64.wrap ((j : Int) - 1) = ((j - 1 : Nat) : Int) := by rw [i64 (by omega) (by omega)]; omega
      have tl := tabL_len f k
      rw [if_pos (by omega), chk_pos (by omega), e1, chk_pos (by omega), chk_pos (by omega), chk_pos (by omega), Int.toNat_natCast, Int.toNat_natCast, h2, tabL_get f c, tabL_get f (i := j - 1) (by omega)]
      rw [i64 (x := f j + cstep f (j - 1)) (by omega) (by omega), i64 (x := f j + cstep f (j - 1) + f (j - 1)) (by omega) (by omega), i64 (x := (j : Int) + 1) (by omega) (by omega)]
      rw [chk_pos (by rw [List.length_set]; omega), getD_set, if_pos (show j = j ∧ j < l.length from ⟨rfl, by omega⟩)]
      have hc : cstep f j = min (f j + cstep f (j - 1) + f (j - 1)) 4294967296 := by
        obtain ⟨m, rfl⟩ : ∃ m, j = m + 1 := ⟨j - 1, by omega⟩
        rfl
      by_cases c2 : f j + cstep f (j - 1) + f (j - 1) > 4294967296
      · rw [if_pos c2, chk_pos (by rw [List.length_set]; omega), List.set_set]
        exact qcount_in hf hk nn (j + 1) _ (by omega) (by omega) (by rw [List.length_set]; exact hl) (fun i hi => by
          rw [getD_set]
          by_cases e : i = j
          · rw [if_pos ⟨e, by omega⟩, e, hc]; omega
          · rw [if_neg (fun h => e h.1)]; exact ha i (by omega)) (by omega)
      · rw [if_neg c2]
        exact qcount_in hf hk nn (j + 1) _ (by omega) (by omega) (by rw [List.length_set]; exact hl) (fun i hi => by
          rw [getD_set]
          by_cases e : i = j
          · rw [if_pos ⟨e, by omega⟩, e, hc]; omega
          · rw [if_neg (fun h => e h.1)]; exact ha i (by omega)) (by omega)
    · rw [if_neg (by omega)]
      obtain rfl : j = k + 1 := by omega
      exact congrArg some (tabL_ext hl fun i hi => ha i (by omega))

theorem qcount_out {n k : Nat} (hk : k ≤ 1000) (hN : k + 2 ≤ N) : ∀ (nn i : Nat), i ≤ n → n - i < nn → n < 1000 → Rc.qcount.loop6 N nn n k i (tabL (cnt i) k) = some (tabL (cnt n) k)
  | 0, i, _, h, _ => by omega
  | nn + 1, i, hi, h, hn => by
    unfold Rc.qcount.loop6
    simp only [br_dec, chkI_same]
    by_cases c : i < n
    · have := qcount_in (N := N) (cnt_small i) hk N 1 (tabL (cnt 0) k) (by omega) (by omega) (tabL_len _ _) (fun m hm => by
        obtain rfl : m = 0 := by omega
        rw [tabL_get _ (by omega)]; rfl) (by omega)
      rw [show ((1 : Nat) : Int) = 1 from rfl] at this
      rw [if_pos (by omega), i64 (x := (k : Int) + 1) (by omega) (by omega), chk_pos (by omega), show ((k : Int) + 1).toNat = k + 1 by omega, chk_pos (by simp), show Int.toNat (0 : Int) = 0 from rfl, start_row, this, obind_of, i64 (by omega) (by omega)]
      exact qcount_out hk hN nn (i + 1) (by omega) (by omega) hn
    · rw [if_neg (by omega)]
      obtain rfl : i = n := by omega
      rfl

/-- How many vectors there are, any numbers. -/
def cntA (n k : Int) : Int := if 1 ≤ n ∧ n ≤ 16 ∧ 0 ≤ k ∧ k ≤ 64 then cnt n.toNat k.toNat else 0
theorem cntA_range (n k : Int) : 0 ≤ cntA n k ∧ cntA n k ≤ 4294967296 := by
  unfold cntA
  split
  · exact cnt_small _ _
  · omega

theorem qcount_F (n k : Int) (hN : 3000 ≤ N) : Rc.qcount.F N n k = some (cntA n k) := by
  unfold Rc.qcount.F cntA
  simp only [br_dec]
  by_cases c1 : n < 1
  · rw [if_pos c1, if_neg (by omega)]
  by_cases c2 : n > 16
  · rw [if_neg c1, if_pos c2, if_neg (by omega)]
  by_cases c3 : k < 0
  · rw [if_neg c1, if_neg c2, if_pos c3, if_neg (by omega)]
  by_cases c4 : k > 64
  · rw [if_neg c1, if_neg c2, if_neg c3, if_pos c4, if_neg (by omega)]
  obtain ⟨m, rfl⟩ := Int.eq_ofNat_of_zero_le (show 0 ≤ n by omega)
  obtain ⟨j, rfl⟩ := Int.eq_ofNat_of_zero_le (show 0 ≤ k by omega)
  rw [if_neg c1, if_neg c2, if_neg c3, if_neg c4, if_pos (by omega), i64 (x := (j : Int) + 1) (by omega) (by omega), chk_pos (by omega), show ((j : Int) + 1).toNat = j + 1 by omega, chk_pos (by simp), show Int.toNat (0 : Int) = 0 from rfl, start_row]
  have := qcount_out (N := N) (n := m) (k := j) (by omega) (by omega) N 0 (by omega) (by omega) (by omega)
  rw [show ((0 : Nat) : Int) = 0 from rfl] at this
  rw [this, obind_of, chk_pos (by rw [tabL_len]; omega), Int.toNat_natCast, Int.toNat_natCast, tabL_get _ (Nat.le_refl _)]

theorem pmay_F (n : Int) : Rc.pmay.F N n = some (decide (1 ≤ n ∧ n ≤ 16)) := by
  unfold Rc.pmay.F
  rw [br_dec]
  by_cases c : n ≥ 1
  · rw [if_pos c]
    congr 1
    by_cases d : n ≤ 16
    · rw [decide_eq_true d, decide_eq_true ⟨c, d⟩]
    · rw [decide_eq_false d, decide_eq_false fun h => d h.2]
  · rw [if_neg c, decide_eq_false fun h => c h.1]

theorem pcount_F (n k : Int) (hN : 3000 ≤ N) : Rc.pcount.F N n k = some (cntA n k) := by
  unfold Rc.pcount.F cntA
  rw [pmay_F, obind_of]
  simp only [br_not_dec, br_dec]
  by_cases c1 : ¬ (1 ≤ n ∧ n ≤ 16)
  · rw [if_neg c1, if_neg (by omega)]
  have c1 : 1 ≤ n ∧ n ≤ 16 := by omega
  by_cases c3 : k < 0
  · rw [if_pos c1, if_pos c3, if_neg (by omega)]
  by_cases c4 : k > 64
  · rw [if_pos c1, if_neg c3, if_pos c4, if_neg (by omega)]
  obtain ⟨m, rfl⟩ := Int.eq_ofNat_of_zero_le (show 0 ≤ n by omega)
  obtain ⟨j, rfl⟩ := Int.eq_ofNat_of_zero_le (show 0 ≤ k by omega)
  rw [if_pos c1, if_neg c3, if_neg c4, if_pos (by omega), prow_F (by omega) (by omega) hN, obind_of, chk_pos (by rw [tabL_len]; omega), Int.toNat_natCast, Int.toNat_natCast, tabL_get _ (Nat.le_refl _)]

/-! ### The most pulses -/
def mostT (n : Int) : Int := if 1 ≤ n ∧ n ≤ 16 then [(64 : Int), 64, 64, 64, 64, 64, 53, 36, 27, 22, 18, 16, 15, 13, 12, 12].getD (n - 1).toNat 0 else 0
theorem mostT_tab : ∀ i : Fin 16, 12 ≤ [(64 : Int), 64, 64, 64, 64, 64, 53, 36, 27, 22, 18, 16, 15, 13, 12, 12].getD i.val 0 ∧ [(64 : Int), 64, 64, 64, 64, 64, 53, 36, 27, 22, 18, 16, 15, 13, 12, 12].getD i.val 0 ≤ 64 := by decide +kernel
theorem mostT_range (n : Int) : 0 ≤ mostT n ∧ mostT n ≤ 64 := by
  unfold mostT
  split
  · have := mostT_tab ⟨(n - 1).toNat, by omega⟩; simp only at this; omega
  · omega
theorem qmost_F (n : Int) : Rc.qmost.F N n = some (mostT n) := by
  unfold Rc.qmost.F mostT
  simp only [br_dec]
  by_cases c1 : n < 1
  · rw [if_pos c1, if_neg (by omega)]
  by_cases c2 : n > 16
  · rw [if_neg c1, if_pos c2, if_neg (by omega)]
  rw [if_neg c1, if_neg c2, if_pos (by omega), i64 (by omega) (by omega), chk_pos (by simp only [List.length_cons, List.length_nil]; omega)]

/-- A row by counting through. -/
def nextR : Int → Int → List Int → List Int
  | _, _, [] => []
  | a, b, x :: r => min (x + a + b) 4294967296 :: nextR (min (x + a + b) 4294967296) x r
def rowC : Nat → List Int
  | 0 => 1 :: List.replicate 64 0
  | n + 1 => match rowC n with
    | [] => []
    | x :: r => 1 :: nextR 1 x r

theorem nextR_len : ∀ (a b : Int) (l : List Int), (nextR a b l).length = l.length
  | _, _, [] => rfl
  | a, b, x :: r => by simp only [nextR, List.length_cons, nextR_len _ _ r]
theorem nextR_get {f : Nat → Int} : ∀ (l : List Int) (j : Nat), (∀ i, i < l.length → l.getD i 0 = f (j + 1 + i)) → ∀ i, i < l.length → (nextR (cstep f j) (f j) l).getD i 0 = cstep f (j + 1 + i)
  | [], j, _, i, h => by simp at h
  | x :: r, j, h, i, hi => by
    have hx : x = f (j + 1) := by have := h 0 (by simp); simpa using this
    have hv : min (x + cstep f j + f j) 4294967296 = cstep f (j + 1) := by rw [hx]; rfl
    simp only [nextR, hv]
    cases i with
    | zero => rfl
    | succ i =>
      have := nextR_get (f := f) r (j + 1) (fun m hm => by
        have := h (m + 1) (by simp; omega)
        rw [show j + 1 + (m + 1) = j + 1 + 1 + m by omega] at this
        simpa using this) i (by simpa using hi)
      rw [hx, show j + 1 + (i + 1) = j + 1 + 1 + i by omega]
      simpa using this
theorem row0 : ∀ i : Fin 65, (rowC 0).getD i.val 0 = cnt 0 i.val := by decide +kernel
theorem rowC_get : ∀ n, (rowC n).length = 65 ∧ ∀ i, i < 65 → (rowC n).getD i 0 = cnt n i
  | 0 => ⟨by decide +kernel, fun i hi => row0 ⟨i, hi⟩⟩
  | n + 1 => by
    obtain ⟨h1, h2⟩ := rowC_get n
    cases hr : rowC n with
    | nil => rw [hr] at h1; simp at h1
    | cons x r =>
      rw [hr] at h1 h2
      have hx : x = cnt n 0 := by have := h2 0 (by omega); simpa using this
      simp only [rowC, hr]
      refine ⟨by simp only [List.length_cons, nextR_len] at h1 ⊢; exact h1, fun i hi => ?_⟩
      cases i with
      | zero => rfl
      | succ i =>
        have := nextR_get (f := cnt n) r 0 (fun m hm => by
          have := h2 (m + 1) (by simp only [List.length_cons] at h1; omega)
          rw [show 0 + 1 + m = m + 1 by omega]
          simpa using this) i (by simp only [List.length_cons] at h1; omega)
        rw [← hx, show 0 + 1 + i = i + 1 by omega] at this
        show (nextR 1 x r).getD i 0 = cnt (n + 1) (i + 1)
        exact this
theorem rowC_tab (n : Nat) : tabL (cnt n) 64 = rowC n := by
  obtain ⟨h1, h2⟩ := rowC_get n
  exact (tabL_ext h1 fun i hi => h2 i (by omega)).symm

/-- Where a row stays below 2^32. -/
def topOf (l : List Int) : Nat → Nat
  | 0 => 0
  | k + 1 => if l.getD (k + 1) 0 ≥ 4294967296 then topOf l k else k + 1
theorem pmost_loop {l : List Int} (hl : l.length = 65) (h0 : l.getD 0 0 < 4294967296) : ∀ (nn k : Nat), k ≤ 64 → k < nn → Rc.pmost.loop5 N nn l k = some ((topOf l k : Nat) : Int)
  | 0, k, _, h => by omega
  | nn + 1, k, hk, h => by
    unfold Rc.pmost.loop5
    simp only [br_dec, chkL_same]
    rw [chk_pos (by omega), Int.toNat_natCast]
    cases k with
    | zero => rw [if_neg (by omega)]; rfl
    | succ k =>
      simp only [topOf]
      by_cases c : l.getD (k + 1) 0 ≥ 4294967296
      · rw [if_pos c, if_pos c, i64 (by omega) (by omega), show ((k + 1 : Nat) : Int) - 1 = (k : Int) by omega]
        exact pmost_loop hl h0 nn k (by omega) (by omega)
      · rw [if_neg c, if_neg c]
theorem tops : ∀ i : Fin 16, ((topOf (rowC (i.val + 1)) 64 : Nat) : Int) = mostT ((i.val : Int) + 1) := by decide +kernel
theorem pmost_F (n : Int) (hN : 3000 ≤ N) : Rc.pmost.F N n = some (mostT n) := by
  unfold Rc.pmost.F
  rw [pmay_F, obind_of]
  simp only [br_not_dec]
  by_cases c : 1 ≤ n ∧ n ≤ 16
  · obtain ⟨m, rfl⟩ := Int.eq_ofNat_of_zero_le (show 0 ≤ n by omega)
    have h := prow_F (N := N) (n := m) (k := 64) (by omega) (by omega) hN
    rw [show ((64 : Nat) : Int) = 64 from rfl] at h
    have hl := pmost_loop (N := N) (l := tabL (cnt m) 64) (tabL_len _ _) (by rw [tabL_get _ (by omega), cnt_zero]; omega) N 64 (by omega) (by omega)
    rw [show ((64 : Nat) : Int) = 64 from rfl] at hl
    have ht := tops ⟨m - 1, by omega⟩
    simp only at ht
    rw [show m - 1 + 1 = m by omega, show (((m - 1 : Nat) : Int) + 1) = (m : Int) by omega, ← rowC_tab] at ht
    rw [if_pos c, h, obind_of, hl, obind_of, ht]
  · rw [if_neg c]
    unfold mostT
    rw [if_neg c]

theorem cnt_pos (n : Nat) : ∀ k, 1 ≤ cnt (n + 1) k
  | 0 => by rw [cnt_zero]; omega
  | k + 1 => by
    have := cnt_pos n k
    have := cnt_small n k
    have := cnt_small n (k + 1)
    rw [cnt_succ]; omega

end
end Go.Pl
/-
  Layer 17: vectors in order: places and vectors undo one another. Nothing of the program here.
  Conditions: none.
-/
namespace Go.Pl
open Go.Eng Go.Proofs

/-! ### Where nothing is capped -/
theorem un_down {n k : Nat} (h : cnt (n + 1) (k + 1) < 4294967296) : cnt n (k + 1) < 4294967296 ∧ cnt (n + 1) k < 4294967296 ∧ cnt n k < 4294967296 ∧ cnt (n + 1) (k + 1) = cnt n (k + 1) + cnt (n + 1) k + cnt n k := by
  have hs := cnt_succ n k
  have u1 := cnt_small n (k + 1)
  have u2 := cnt_small n k
  have u3 := cnt_small (n + 1) k
  omega
theorem un_k {n : Nat} : ∀ {k : Nat}, cnt (n + 1) k < 4294967296 → ∀ j, j ≤ k → cnt (n + 1) j < 4294967296
  | 0, h, j, hj => by obtain rfl : j = 0 := by omega
                      exact h
  | k + 1, h, j, hj => by
    rcases Nat.lt_or_ge k j with c | c
    · obtain rfl : j = k + 1 := by omega
      exact h
    · exact un_k (un_down h).2.1 j c
theorem un_n {n k : Nat} (h : cnt (n + 1) k < 4294967296) : cnt n k < 4294967296 := by
  cases k with
  | zero => rw [cnt_zero]; decide
  | succ k => exact (un_down h).1
theorem un_nk {n k : Nat} (h : cnt (n + 1) k < 4294967296) {j : Nat} (hj : j ≤ k) : cnt n j < 4294967296 := un_n (un_k h j hj)

/-- How many stand with a first number of that size. -/
def both (n k s : Nat) : Int := if s = 0 then cnt n k else 2 * cnt n (k - s)
/-- .. with a first number of a lesser size. -/
def bs (n k : Nat) : Nat → Int
  | 0 => 0
  | s + 1 => bs n k s + both n k s
def sm (n : Nat) : Nat → Int
  | 0 => 0
  | k + 1 => sm n k + cnt n k

theorem both_nonneg (n k s : Nat) : 0 ≤ both n k s := by
  unfold both
  have := cnt_small n k
  have := cnt_small n (k - s)
  split <;> omega
theorem sum_un {n : Nat} : ∀ {k : Nat}, cnt (n + 1) k < 4294967296 → cnt (n + 1) k = cnt n k + 2 * sm n k
  | 0, _ => by rw [cnt_zero, cnt_zero]; rfl
  | k + 1, h => by
    obtain ⟨_, h2, _, h4⟩ := un_down h
    have := sum_un h2
    simp only [sm]
    omega
theorem bs_sm (n k : Nat) : ∀ s, 1 ≤ s → s ≤ k + 1 → bs n k s = cnt n k + 2 * (sm n k - sm n (k + 1 - s))
  | 0, h, _ => by omega
  | 1, _, _ => by
    show 0 + both n k 0 = _
    unfold both
    rw [if_pos rfl, show k + 1 - 1 = k by omega]; omega
  | s + 2, _, h => by
    have ih := bs_sm n k (s + 1) (by omega) (by omega)
    show bs n k (s + 1) + both n k (s + 1) = _
    rw [ih]
    unfold both
    rw [if_neg (by omega), show k + 1 - (s + 1) = k - (s + 1) + 1 by omega, show k + 1 - (s + 2) = k - (s + 1) by omega]
    simp only [sm]
    omega
/-- All of them. -/
theorem bs_all {n k : Nat} (h : cnt (n + 1) k < 4294967296) : bs n k (k + 1) = cnt (n + 1) k := by
  rw [bs_sm n k (k + 1) (by omega) (Nat.le_refl _), sum_un h, show k + 1 - (k + 1) = 0 by omega]
  simp only [sm]
  omega

/-! ### Vectors -/
def fnd (n k : Nat) : Nat → Nat → Int → Nat × Int
  | 0, s, i => (s, i)
  | f + 1, s, i => if i ≥ both n k s then fnd n k f (s + 1) (i - both n k s) else (s, i)
def vec : Nat → Nat → Int → List Int
  | 0, _, _ => []
  | n + 1, k, i =>
    if (fnd n k (k + 1) 0 i).1 > 0 ∧ (fnd n k (k + 1) 0 i).2 ≥ cnt n (k - (fnd n k (k + 1) 0 i).1) then
      -((fnd n k (k + 1) 0 i).1 : Int) :: vec n (k - (fnd n k (k + 1) 0 i).1) ((fnd n k (k + 1) 0 i).2 - cnt n (k - (fnd n k (k + 1) 0 i).1))
    else ((fnd n k (k + 1) 0 i).1 : Int) :: vec n (k - (fnd n k (k + 1) 0 i).1) (fnd n k (k + 1) 0 i).2
def sz1 (y : List Int) : Nat := (y.map Int.natAbs).sum
def ix : List Int → Nat → Int
  | [], _ => 0
  | y :: r, k => bs r.length k y.natAbs + (if y < 0 then cnt r.length (k - y.natAbs) else 0) + ix r (k - y.natAbs)

theorem fnd_spec {n k : Nat} : ∀ (f s : Nat) (i : Int), s + f = k + 1 → 0 ≤ i → i + bs n k s < bs n k (k + 1) →
    s ≤ (fnd n k f s i).1 ∧ (fnd n k f s i).1 ≤ k ∧ 0 ≤ (fnd n k f s i).2 ∧ (fnd n k f s i).2 < both n k (fnd n k f s i).1 ∧ (fnd n k f s i).2 + bs n k (fnd n k f s i).1 = i + bs n k s
  | 0, s, i, h, h0, h1 => by
    obtain rfl : s = k + 1 := by omega
    omega
  | f + 1, s, i, h, h0, h1 => by
    simp only [fnd]
    by_cases c : i ≥ both n k s
    · rw [if_pos c]
      have hb : bs n k (s + 1) = bs n k s + both n k s := rfl
      have := fnd_spec (n := n) (k := k) f (s + 1) (i - both n k s) (by omega) (by omega) (by omega)
      omega
    · rw [if_neg c]
      exact ⟨Nat.le_refl _, by omega, h0, by show i < both n k s; omega, rfl⟩
/-- A place's vector, and back. -/
theorem vec_spec : ∀ (n k : Nat) (i : Int), 0 ≤ i → i < cnt n k → cnt n k < 4294967296 → (vec n k i).length = n ∧ sz1 (vec n k i) = k ∧ ix (vec n k i) k = i
  | 0, k, i, h0, h1, _ => by
    have hk : k = 0 ∧ i = 0 := by
      simp only [cnt] at h1
      split at h1 <;> omega
    obtain ⟨rfl, rfl⟩ := hk
    exact ⟨rfl, rfl, rfl⟩
  | n + 1, k, i, h0, h1, hu => by
    have hall := bs_all hu
    obtain ⟨_, a1, a2, a3, a4⟩ := fnd_spec (n := n) (k := k) (k + 1) 0 i (by omega) h0 (by show i + 0 < _; omega)
    have z : bs n k 0 = 0 := rfl
    simp only [vec]
    generalize fnd n k (k + 1) 0 i = q at a1 a2 a3 a4 ⊢
    obtain ⟨s, r⟩ := q
    simp only at a1 a2 a3 a4 ⊢
    have hc := cnt_small n (k - s)
    have hun := un_nk hu (show k - s ≤ k by omega)
    by_cases c : s > 0 ∧ r ≥ cnt n (k - s)
    · rw [if_pos c]
      have hb : both n k s = 2 * cnt n (k - s) := by unfold both; rw [if_neg (by omega)]
      obtain ⟨l1, l2, l3⟩ := vec_spec n (k - s) (r - cnt n (k - s)) (by omega) (by omega) hun
      refine ⟨by simp [l1], ?_, ?_⟩
      · have : sz1 (-(s : Int) :: vec n (k - s) (r - cnt n (k - s))) = s + sz1 (vec n (k - s) (r - cnt n (k - s))) := by simp [sz1]
        omega
      · simp only [ix, l1, Int.natAbs_neg, Int.natAbs_natCast]
        rw [if_pos (by omega), l3]
        omega
    · rw [if_neg c]
      have hb : r < cnt n (k - s) := by
        rcases Nat.eq_zero_or_pos s with d | d
        · subst d
          unfold both at a3
          rw [if_pos rfl] at a3
          exact a3
        · rcases Int.lt_or_le r (cnt n (k - s)) with e | e
          · exact e
          · exact absurd ⟨d, e⟩ c
      obtain ⟨l1, l2, l3⟩ := vec_spec n (k - s) r (by omega) hb hun
      refine ⟨by simp [l1], ?_, ?_⟩
      · have : sz1 ((s : Int) :: vec n (k - s) r) = s + sz1 (vec n (k - s) r) := by simp [sz1]
        omega
      · simp only [ix, l1, Int.natAbs_natCast]
        rw [if_neg (by omega), l3]
        omega

/-! ### The first one, the last one -/
/-! ### Order -/
def rk (v : Int) : Int := if v > 0 then 2 * v - 1 else -2 * v
/-- Up to the most pulses nothing is capped. -/
theorem most_tab : ∀ i : Fin 16, (rowC (i.val + 1)).getD (mostT ((i.val : Int) + 1)).toNat 0 < 4294967296 := by decide +kernel
theorem un_most {n k : Nat} (h0 : 1 ≤ n) (h1 : n ≤ 16) (hk : (k : Int) ≤ mostT n) : cnt n k < 4294967296 := by
  have hr := mostT_range n
  have ht := most_tab ⟨n - 1, by omega⟩
  simp only at ht
  rw [show n - 1 + 1 = n by omega, show (((n - 1 : Nat) : Int) + 1) = (n : Int) by omega, (rowC_get n).2 _ (by omega)] at ht
  obtain ⟨m, rfl⟩ : ∃ m, n = m + 1 := ⟨n - 1, by omega⟩
  exact un_k ht k (by omega)
end Go.Pl
/-
  Layer 17: the program's tables, vectors and places, and its plain twin's.
  Conditions: none.
-/
namespace Go.Pl
open Go.Eng Go.Proofs

def tabR (n k : Nat) : List (List Int) := (List.range (n + 1)).map fun m => tabL (cnt m) k
theorem tabR_len (n k : Nat) : (tabR n k).length = n + 1 := by simp [tabR]
theorem tabR_get {n k m : Nat} (h : m ≤ n) : (tabR n k).getD m [] = tabL (cnt m) k := by
  simp [tabR, List.getD_eq_getElem?_getD, List.getElem?_map, List.getElem?_range, show m < n + 1 by omega]
theorem tabR_ext {n k : Nat} {l : List (List Int)} (hl : l.length = n + 1) (h : ∀ m, m ≤ n → l.getD m [] = tabL (cnt m) k) : l = tabR n k := by
  apply List.ext_getElem?
  intro i
  rcases Nat.lt_or_ge i (n + 1) with c | c
  · have h1 := h i (by omega)
    have h2 := tabR_get (k := k) (show i ≤ n by omega)
    rw [List.getD_eq_getElem?_getD, List.getElem?_eq_getElem (by omega)] at h1
    rw [List.getD_eq_getElem?_getD, List.getElem?_eq_getElem (by rw [tabR_len]; omega)] at h2
    rw [List.getElem?_eq_getElem (by omega), List.getElem?_eq_getElem (by rw [tabR_len]; omega)]
    simp only [Option.getD_some] at h1 h2
    rw [h1, h2]
  · rw [List.getElem?_eq_none (by omega), List.getElem?_eq_none (by rw [tabR_len]; omega)]
theorem getR_set (l : List (List Int)) (j : Nat) (v : List Int) (i : Nat) : (l.set j v).getD i [] = if i = j ∧ j < l.length then v else l.getD i [] := by
  rw [List.getD_eq_getElem?_getD, List.getElem?_set, List.getD_eq_getElem?_getD]
  by_cases h : j = i
  · subst h
    rw [if_pos rfl]
    by_cases c : j < l.length
    · rw [if_pos c, if_pos ⟨rfl, c⟩]; rfl
    · rw [if_neg c, if_neg (fun h => c h.2), List.getElem?_eq_none (by omega)]
  · rw [if_neg h, if_neg (fun hh => h hh.1.symm)]

section
variable {N : Nat}
theorem table_in {k i : Nat} (hk : k ≤ 1000) (hi : i < 1000) {R : List (List Int)} (hR : R.getD i [] = tabL (cnt i) k) (hRl : i + 1 < R.length) : ∀ (nn j : Nat) (l : List Int), 1 ≤ j → j ≤ k + 1 → l.length = k + 1 → (∀ m, m < j → l.getD m 0 = cnt (i + 1) m) → k + 1 - j < nn →
    Rc.table.loop8 N nn k ((i + 1 : Nat) : Int) ((i + 1 : Nat) : Int) R j l = some (tabL (cnt (i + 1)) k)
  | 0, j, l, _, _, _, _, h => by omega
  | nn + 1, j, l, j1, j2, hl, ha, h => by
    unfold Rc.table.loop8
    simp only [br_dec, chkI_same, chkL_same, chkN_same, chkR_same]
    by_cases c : j ≤ k
    · have h2 := ha (j - 1) (by omega)
      have s1 := cnt_small i j
      have s2 := cnt_small (i + 1) (j - 1)
      have s3 := cnt_small i (j - 1)
      have e1 : IntKind.i64.wrap ((j : Int) - 1) = ((j - 1 : Nat) : Int) := by rw [i64 (by omega) (by omega)]; omega
      have e2 : IntKind.i64.wrap (((i + 1 : Nat) : Int) - 1) = (i : Int) := by rw [i64 (by omega) (by omega)]; omega
      have tl := tabL_len (cnt i) k
      rw [if_pos (by omega), if_pos (by omega), chk_pos (by omega), if_pos trivial, e2, chk_pos (by omega), Int.toNat_natCast, Int.toNat_natCast, if_neg (by omega), hR, chk_pos (by omega), chk_pos (by omega), if_pos trivial, e1, chk_pos (by omega), chk_pos (by omega), if_neg (by omega), chk_pos (by omega), chk_pos (by omega), Int.toNat_natCast, Int.toNat_natCast, h2, tabL_get _ c, tabL_get _ (i := j - 1) (by omega)]
      rw [i64 (x := cnt i j + cnt (i + 1) (j - 1)) (by omega) (by omega), i64 (x := cnt i j + cnt (i + 1) (j - 1) + cnt i (j - 1)) (by omega) (by omega), i64 (x := (j : Int) + 1) (by omega) (by omega)]
      have hv : (if (4294967296 : Int) < cnt i j + cnt (i + 1) (j - 1) + cnt i (j - 1) then 4294967296 else cnt i j + cnt (i + 1) (j - 1) + cnt i (j - 1)) = cnt (i + 1) j := by
        obtain ⟨m, rfl⟩ : ∃ m, j = m + 1 := ⟨j - 1, by omega⟩
        rw [cnt_succ]
        simp only [Nat.add_sub_cancel]
        split <;> omega
      rw [hv]
      exact table_in hk hi hR hRl nn (j + 1) (l.set j (cnt (i + 1) j)) (by omega) (by omega) (by rw [List.length_set]; exact hl) (fun m hm => by
        rw [getD_set]
        by_cases e : m = j
        · rw [if_pos ⟨e, by omega⟩, e]
        · rw [if_neg (fun h => e h.1)]; exact ha m (by omega)) (by omega)
    · rw [if_neg (by omega)]
      obtain rfl : j = k + 1 := by omega
      exact congrArg some (tabL_ext hl fun i hi => ha i (by omega))
theorem table_out {n k : Nat} (hk : k ≤ 1000) (hn : n < 1000) (hN : 3000 ≤ N) : ∀ (nn i : Nat) (R : List (List Int)), i ≤ n + 1 → n + 1 - i < nn → R.length = n + 1 → (∀ m, m < i → R.getD m [] = tabL (cnt m) k) →
    Rc.table.loop3 N nn k ((n + 1 : Nat) : Int) i R = some (tabR n k)
  | 0, i, R, _, h, _, _ => by omega
  | nn + 1, i, R, hi, h, hl, ha => by
    unfold Rc.table.loop3
    simp only [br_dec, chkI_same]
    by_cases c : i < n + 1
    · rw [if_pos (by omega), i64 (x := (k : Int) + 1) (by omega) (by omega), chk_pos (by omega), chk_pos (by omega), chk_pos (by omega), if_pos trivial, show ((k : Int) + 1).toNat = k + 1 by omega, chk_pos (by simp), show Int.toNat (0 : Int) = 0 from rfl, start_row, Int.toNat_natCast, Int.toNat_natCast]
      have hin : Rc.table.loop8 N N k (i : Int) (i : Int) R 1 (tabL (cnt 0) k) = some (tabL (cnt i) k) := by
        obtain ⟨M, rfl⟩ : ∃ M, N = M + 1 := ⟨N - 1, by omega⟩
        cases i with
        | zero =>
          unfold Rc.table.loop8
          simp only [br_dec, chkN_same, chkR_same]
          by_cases c : (1 : Int) ≤ k
          · rw [if_pos c, if_neg (by omega)]
          · rw [if_neg c]
        | succ i =>
          have := table_in (N := M + 1) hk (i := i) (by omega) (R := R) (ha i (by omega)) (by omega) (M + 1) 1 (tabL (cnt 0) k) (by omega) (by omega) (tabL_len _ _) (fun m hm => by
            obtain rfl : m = 0 := by omega
            rw [tabL_get _ (by omega)]; rfl) (by omega)
          exact this
      rw [hin, obind_of, i64 (by omega) (by omega)]
      exact table_out hk hn hN nn (i + 1) _ (by omega) (by omega) (by rw [List.length_set]; exact hl) (fun m hm => by
        rw [getR_set]
        by_cases e : m = i
        · rw [if_pos ⟨e, by omega⟩, e]
        · rw [if_neg (fun h => e h.1)]; exact ha m (by omega))
    · rw [if_neg (by omega)]
      exact congrArg some (tabR_ext hl fun m hm => ha m (by omega))

theorem table_F {n k : Nat} (hk : k ≤ 1000) (hn : n < 1000) (hN : 3000 ≤ N) : Rc.table.F N n k = some (tabR n k) := by
  unfold Rc.table.F
  rw [i64 (x := (n : Int) + 1) (by omega) (by omega), chk_pos (by omega), show ((n : Int) + 1).toNat = n + 1 by omega, List.length_replicate]
  have := table_out (N := N) (n := n) (k := k) hk hn hN N 0 (List.replicate (n + 1) []) (by omega) (by omega) (by simp) (fun m hm => by omega)
  rw [show ((0 : Nat) : Int) = 0 from rfl] at this
  rw [this, obind_of]

/-! ### The program's vectors -/
theorem pfnd {n k K : Nat} (hkK : k ≤ K) (hK : K ≤ 1000) : ∀ (nn f s : Nat) (i : Int), s + f = k + 1 → 0 ≤ i → i + bs n k s < bs n k (k + 1) → i < 1099511627776 → f < nn →
    Rc.pvector.loop11 N nn k (tabL (cnt n) K) i s (both n k s) = some ((fnd n k f s i).2, (((fnd n k f s i).1 : Nat) : Int))
  | 0, f, s, i, _, _, _, _, h => by omega
  | nn + 1, f, s, i, hf, h0, h1, h2, h => by
    unfold Rc.pvector.loop11
    simp only [br_dec, chkI_same, chkL_same]
    have hbn := both_nonneg n k s
    rcases f with _ | f
    · exfalso
      obtain rfl : s = k + 1 := by omega
      omega
    · simp only [fnd]
      by_cases c : i ≥ both n k s
      · have hb : bs n k (s + 1) = bs n k s + both n k s := rfl
        have hsk : s < k := by
          rcases Nat.lt_or_ge s k with d | d
          · exact d
          · obtain rfl : s = k := by omega
            omega
        have tl := tabL_len (cnt n) K
        have sm := cnt_small n (k - (s + 1))
        rw [if_pos c, if_pos c, i64 (x := (s : Int) + 1) (by omega) (by omega), i64 (x := (k : Int) - ((s : Int) + 1)) (by omega) (by omega), chk_pos (by omega), i64 (x := i - both n k s) (by omega) (by omega), show ((k : Int) - ((s : Int) + 1)).toNat = k - (s + 1) by omega, tabL_get _ (by omega), i64 (x := 2 * cnt n (k - (s + 1))) (by omega) (by omega)]
        have ih := pfnd (n := n) hkK hK nn f (s + 1) (i - both n k s) (by omega) (by omega) (by omega) (by omega) (by omega)
        have hb2 : both n k (s + 1) = 2 * cnt n (k - (s + 1)) := by unfold both; rw [if_neg (by omega)]
        rw [hb2] at ih
        exact ih
      · rw [if_neg c, if_neg c]

theorem set_at (pre : List Int) (x v : Int) (r : List Int) : (pre ++ x :: r).set pre.length v = pre ++ v :: r := by
  rw [List.set_append_right _ _ (Nat.le_refl _), Nat.sub_self]; rfl

theorem pvector_loop {n0 K : Nat} (hn0 : n0 ≤ 16) (hK : K ≤ 1000) (hN : 3000 ≤ N) : ∀ (nn n k : Nat) (i : Int) (pre : List Int), pre.length + n = n0 → k ≤ K → 0 ≤ i → i < cnt n k → cnt n k < 4294967296 → n < nn →
    ∃ k' i', Rc.pvector.loop6 N nn n0 n0 (tabR n0 K) k i pre.length (pre ++ List.replicate n 0) = some (k', i', pre ++ vec n k i)
  | 0, n, k, i, pre, _, _, _, _, _, h => by omega
  | nn + 1, n, k, i, pre, hp, hk, h0, h1, hu, h => by
    unfold Rc.pvector.loop6
    simp only [br_dec, chkI_same, chkR_same]
    rcases n with _ | n
    · rw [if_neg (by omega)]
      exact ⟨_, _, rfl⟩
    · have hall := bs_all hu
      have e1 : IntKind.i64.wrap (IntKind.i64.wrap ((n0 : Int) - 1) - (pre.length : Int)) = (n : Int) := by
        rw [i64 (x := (n0 : Int) - 1) (by omega) (by omega), i64 (by omega) (by omega)]; omega
      have tl := tabL_len (cnt n) K
      have tr := tabR_len n0 K
      obtain ⟨_, a1, a2, a3, a4⟩ := fnd_spec (n := n) (k := k) (k + 1) 0 i (by omega) h0 (by show i + 0 < _; omega)
      have z : bs n k 0 = 0 := rfl
      have hpf := pfnd (N := N) (n := n) hk hK N (k + 1) 0 i (by omega) h0 (by show i + 0 < _; omega) (by omega) (by omega)
      rw [show both n k 0 = cnt n k from rfl, show ((0 : Nat) : Int) = 0 from rfl] at hpf
      rw [if_pos (by omega), e1, chk_pos (by omega), Int.toNat_natCast, tabR_get (by omega), chk_pos (by omega), Int.toNat_natCast, tabL_get _ hk, hpf, obind_of, List.replicate_succ]
      simp only
      simp only [vec]
      generalize fnd n k (k + 1) 0 i = q at a1 a2 a3 a4 ⊢
      obtain ⟨s, r⟩ := q
      simp only at a1 a2 a3 a4 ⊢
      have hc := cnt_small n (k - s)
      have hun := un_nk hu (show k - s ≤ k by omega)
      have e2 : IntKind.i64.wrap ((k : Int) - (s : Int)) = ((k - s : Nat) : Int) := by rw [i64 (by omega) (by omega)]; omega
      have hlen : (pre ++ (0 : Int) :: List.replicate n 0).length = n0 := by simp; omega
      have next : ∀ (v : Int) (i' : Int), 0 ≤ i' → i' < cnt n (k - s) → ∃ k'' i'', Rc.pvector.loop6 N nn n0 n0 (tabR n0 K) ((k - s : Nat) : Int) i' ((pre.length : Int) + 1) (pre ++ v :: List.replicate n 0) = some (k'', i'', pre ++ v :: vec n (k - s) i') := fun v i' g0 g1 => by
        have := pvector_loop hn0 hK hN nn n (k - s) i' (pre ++ [v]) (by simp; omega) (by omega) g0 g1 hun (by omega)
        rw [show (((pre ++ [v]).length : Nat) : Int) = (pre.length : Int) + 1 by simp, List.append_assoc, List.append_assoc] at this
        exact this
      rw [chk_pos (by omega), e2, i64 (x := (pre.length : Int) + 1) (by omega) (by omega), Int.toNat_natCast, Int.toNat_natCast, tabL_get _ (by omega), set_at]
      by_cases cs : s > 0
      · rw [if_pos (by omega), chk_pos (by omega)]
        by_cases cr : r ≥ cnt n (k - s)
        · have hb : both n k s = 2 * cnt n (k - s) := by unfold both; rw [if_neg (by omega)]
          rw [if_pos cr, if_pos ⟨cs, cr⟩, chk_pos (by omega), chk_pos (by simp; omega), chk_pos (by simp; omega), i64 (x := r - cnt n (k - s)) (by omega) (by omega), set_at]
          have hg : (pre ++ (s : Int) :: List.replicate n 0).getD pre.length 0 = (s : Int) := by simp [List.getD_eq_getElem?_getD]
          rw [hg, i64 (x := 0 - (s : Int)) (by omega) (by omega), show (0 : Int) - s = -(s : Int) by omega]
          exact next _ _ (by omega) (by omega)
        · rw [if_neg cr, if_neg (fun h => cr h.2)]
          exact next _ _ a2 (by omega)
      · rw [if_neg (by omega), if_neg (fun h => cs h.1)]
        have : s = 0 := by omega
        subst this
        refine next _ _ a2 ?_
        unfold both at a3
        rw [if_pos rfl] at a3
        exact a3

/-- May such a place be? -/
def VOk (n k i : Int) : Prop := 1 ≤ n ∧ n ≤ 16 ∧ 0 ≤ k ∧ k ≤ mostT n ∧ 0 ≤ i ∧ i < cntA n k
instance (n k i : Int) : Decidable (VOk n k i) := by unfold VOk; exact inferInstance
theorem VOk.un {n k i : Int} (h : VOk n k i) : cntA n k = cnt n.toNat k.toNat ∧ cnt n.toNat k.toNat < 4294967296 ∧ k ≤ 64 := by
  obtain ⟨h1, h2, h3, h4, h5, h6⟩ := h
  have hr := mostT_range n
  refine ⟨by unfold cntA; rw [if_pos (by omega)], un_most (by omega) (by omega) ?_, by omega⟩
  rw [show ((n.toNat : Nat) : Int) = n by omega]; omega

theorem pvector_F (n k i : Int) (hN : 3000 ≤ N) : Rc.pvector.F N n k i = some (if VOk n k i then (0, vec n.toNat k.toNat i) else (1, [])) := by
  unfold Rc.pvector.F
  rw [pmay_F, obind_of]
  simp only [br_not_dec, br_dec]
  by_cases c1 : ¬ (1 ≤ n ∧ n ≤ 16)
  · rw [if_neg c1, if_neg (fun h => c1 ⟨h.1, h.2.1⟩)]
  have c1 : 1 ≤ n ∧ n ≤ 16 := by omega
  rw [if_pos c1]
  by_cases c2 : k < 0
  · rw [if_pos c2, if_neg (fun h => by have := h.2.2.1; omega)]
  rw [if_neg c2, pmost_F _ hN, obind_of]
  by_cases c3 : k > mostT n
  · rw [if_pos c3, if_neg (fun h => by have := h.2.2.2.1; omega)]
  rw [if_neg c3]
  by_cases c4 : i < 0
  · rw [if_pos c4, if_neg (fun h => by have := h.2.2.2.2.1; omega)]
  rw [if_neg c4, pcount_F _ _ hN, obind_of]
  by_cases c5 : i ≥ cntA n k
  · rw [if_pos c5, if_neg (fun h => by have := h.2.2.2.2.2; omega)]
  have hv : VOk n k i := ⟨c1.1, c1.2, by omega, by omega, by omega, by omega⟩
  obtain ⟨u1, u2, u3⟩ := hv.un
  rw [if_neg c5, if_pos hv]
  obtain ⟨m, rfl⟩ := Int.eq_ofNat_of_zero_le (show 0 ≤ n by omega)
  obtain ⟨j, rfl⟩ := Int.eq_ofNat_of_zero_le (show 0 ≤ k by omega)
  simp only [Int.toNat_natCast] at u1 u2 ⊢
  obtain ⟨k', i', hl⟩ := pvector_loop (N := N) (n0 := m) (K := j) (by omega) (by omega) hN N m j i [] (by simp) (Nat.le_refl _) (by omega) (by omega) u2 (by omega)
  rw [show (([] : List Int).length : Int) = 0 from rfl, List.nil_append, List.nil_append] at hl
  rw [table_F (by omega) (by omega) hN, obind_of, chk_pos (by omega), List.length_replicate, hl, obind_of]

/-! ### The twin's vectors -/
theorem qrest_F {n : Nat} {k : Nat} (hn : n ≤ 16) (hk : k ≤ 64) (hN : 3000 ≤ N) : Rc.qrest.F N n k = some (cnt n k) := by
  unfold Rc.qrest.F
  simp only [br_beq]
  cases n with
  | zero =>
    rw [if_pos (by omega)]
    simp only [cnt]
    by_cases c : k = 0
    · rw [if_pos (by omega), if_pos c]
    · rw [if_neg (by omega), if_neg c]
  | succ n =>
    rw [if_neg (by omega), qcount_F _ _ hN, obind_of]
    unfold cntA
    rw [if_pos (by omega)]
    simp

theorem qfnd {n0 at0 n k : Nat} (hn : at0 + n + 1 = n0) (hn0 : n0 ≤ 16) (hk : k ≤ 64) (hN : 3000 ≤ N) : ∀ (nn f s : Nat) (i : Int), s + f = k + 1 → 0 ≤ i → i + bs n k s < bs n k (k + 1) → i < 1099511627776 → 2 * f < nn →
    Rc.qvector.loop7 N nn n0 k at0 i s 1 =
      some (if (fnd n k f s i).1 > 0 ∧ (fnd n k f s i).2 ≥ cnt n (k - (fnd n k f s i).1) then ((fnd n k f s i).2 - cnt n (k - (fnd n k f s i).1), (((fnd n k f s i).1 : Nat) : Int), -1) else ((fnd n k f s i).2, (((fnd n k f s i).1 : Nat) : Int), 1))
  | 0, f, s, i, _, _, _, _, h => by omega
  | 1, f, s, i, hf, _, h1, _, h => by
    exfalso
    obtain rfl : s = k + 1 := by omega
    omega
  | nn + 2, f, s, i, hf, h0, h1, h2, h => by
    rcases f with _ | f
    · exfalso
      obtain rfl : s = k + 1 := by omega
      omega
    have hsk : s ≤ k := by omega
    have sm := cnt_small n (k - s)
    have e1 : IntKind.i64.wrap (IntKind.i64.wrap ((n0 : Int) - (at0 : Int)) - 1) = (n : Int) := by
      rw [i64 (x := (n0 : Int) - (at0 : Int)) (by omega) (by omega), i64 (by omega) (by omega)]; omega
    have e2 : IntKind.i64.wrap ((k : Int) - (s : Int)) = ((k - s : Nat) : Int) := by rw [i64 (by omega) (by omega)]; omega
    have hb : bs n k (s + 1) = bs n k s + both n k s := rfl
    have ih := fun nn' (h : 2 * f < nn') (hc : i ≥ both n k s) => qfnd (n0 := n0) (at0 := at0) hn hn0 hk hN nn' f (s + 1) (i - both n k s) (by omega) (by have := both_nonneg n k s; omega) (by omega) (by have := both_nonneg n k s; omega) h
    unfold Rc.qvector.loop7
    simp only [br_dec, chkI_same]
    rw [e1, e2, qrest_F (by omega) (by omega) hN, obind_of]
    have fy : i ≥ both n k s → fnd n k (f + 1) s i = fnd n k f (s + 1) (i - both n k s) := fun h => if_pos h
    have fn : ¬ i ≥ both n k s → fnd n k (f + 1) s i = (s, i) := fun h => if_neg h
    by_cases c0 : s = 0
    · subst c0
      have hb0 : both n k 0 = cnt n (k - 0) := rfl
      by_cases c : i < cnt n (k - 0)
      · rw [if_pos c, fn (by omega), if_neg (fun h => by have := h.1; simp at this)]
      · rw [if_neg c, if_neg (by omega), i64 (x := i - cnt n (k - 0)) (by omega) (by omega), i64 (by omega) (by omega), fy (by omega), ← hb0]
        exact ih (nn + 1) (by omega) (by omega)
    · have hbs : both n k s = 2 * cnt n (k - s) := by unfold both; rw [if_neg c0]
      by_cases c : i < cnt n (k - s)
      · rw [if_pos c, fn (by omega), if_neg (fun h => by have := h.2; simp only at this; omega)]
      · rw [if_neg c, if_pos (by omega), if_pos (by omega), i64 (x := i - cnt n (k - s)) (by omega) (by omega)]
        unfold Rc.qvector.loop7
        simp only [br_dec, chkI_same]
        rw [e1, e2, qrest_F (by omega) (by omega) hN, obind_of]
        by_cases c2 : i - cnt n (k - s) < cnt n (k - s)
        · rw [if_pos c2, fn (by omega), if_pos ⟨by show s > 0; omega, by show i ≥ cnt n (k - s); omega⟩]
        · rw [if_neg c2, if_pos (by omega), if_neg (by omega), i64 (x := i - cnt n (k - s) - cnt n (k - s)) (by omega) (by omega), i64 (x := (s : Int) + 1) (by omega) (by omega), fy (by omega), show i - cnt n (k - s) - cnt n (k - s) = i - both n k s by omega]
          exact ih nn (by omega) (by omega)

theorem qvector_loop {n0 : Nat} (hn0 : n0 ≤ 16) (hN : 3000 ≤ N) : ∀ (nn n k : Nat) (i : Int) (pre : List Int), pre.length + n = n0 → k ≤ 64 → 0 ≤ i → i < cnt n k → cnt n k < 4294967296 → n < nn →
    Rc.qvector.loop3 N nn n0 k i pre.length pre = some (pre ++ vec n k i)
  | 0, n, k, i, pre, _, _, _, _, _, h => by omega
  | nn + 1, n, k, i, pre, hp, hk, h0, h1, hu, h => by
    unfold Rc.qvector.loop3
    simp only [br_dec, chkI_same]
    rcases n with _ | n
    · rw [if_neg (by omega)]
      simp [vec]
    · have hall := bs_all hu
      obtain ⟨_, a1, a2, a3, a4⟩ := fnd_spec (n := n) (k := k) (k + 1) 0 i (by omega) h0 (by show i + 0 < _; omega)
      have z : bs n k 0 = 0 := rfl
      have hpf := qfnd (N := N) (n0 := n0) (at0 := pre.length) (n := n) (k := k) (by omega) hn0 hk hN N (k + 1) 0 i (by omega) h0 (by show i + 0 < _; omega) (by omega) (by omega)
      rw [show ((0 : Nat) : Int) = 0 from rfl] at hpf
      rw [if_pos (by omega), hpf, obind_of]
      simp only [vec]
      generalize fnd n k (k + 1) 0 i = q at a1 a2 a3 a4 ⊢
      obtain ⟨s, r⟩ := q
      simp only at a1 a2 a3 a4 ⊢
      have hc := cnt_small n (k - s)
      have hun := un_nk hu (show k - s ≤ k by omega)
      have e2 : IntKind.i64.wrap ((k : Int) - (s : Int)) = ((k - s : Nat) : Int) := by rw [i64 (by omega) (by omega)]; omega
      have next : ∀ (v : Int) (i' : Int), 0 ≤ i' → i' < cnt n (k - s) → Rc.qvector.loop3 N nn n0 ((k - s : Nat) : Int) i' ((pre.length : Int) + 1) (pre ++ [v]) = some (pre ++ v :: vec n (k - s) i') := fun v i' g0 g1 => by
        have := qvector_loop hn0 hN nn n (k - s) i' (pre ++ [v]) (by simp; omega) (by omega) g0 g1 hun (by omega)
        rw [show (((pre ++ [v]).length : Nat) : Int) = (pre.length : Int) + 1 by simp, List.append_assoc] at this
        exact this
      by_cases c : s > 0 ∧ r ≥ cnt n (k - s)
      · have hb : both n k s = 2 * cnt n (k - s) := by unfold both; rw [if_neg (by omega)]
        rw [if_pos c, if_pos c]
        simp only
        rw [chk_pos (by simp; omega), e2, i64 (x := (pre.length : Int) + 1) (by omega) (by omega), i64 (x := -1 * (s : Int)) (by omega) (by omega), show -1 * (s : Int) = -(s : Int) by omega]
        exact next _ _ (by omega) (by omega)
      · rw [if_neg c, if_neg c]
        simp only
        rw [chk_pos (by simp; omega), e2, i64 (x := (pre.length : Int) + 1) (by omega) (by omega), i64 (x := 1 * (s : Int)) (by omega) (by omega), show 1 * (s : Int) = (s : Int) by omega]
        refine next _ _ a2 ?_
        rcases Nat.eq_zero_or_pos s with d | d
        · subst d
          unfold both at a3
          rw [if_pos rfl] at a3
          exact a3
        · rcases Int.lt_or_le r (cnt n (k - s)) with e | e
          · exact e
          · exact absurd ⟨d, e⟩ c

theorem qvector_F {n k i : Int} (hv : VOk n k i) (hN : 3000 ≤ N) : Rc.qvector.F N n k i = some (vec n.toNat k.toNat i) := by
  unfold Rc.qvector.F
  obtain ⟨u1, u2, u3⟩ := hv.un
  obtain ⟨c1, c2, c3, c4, c5, c6⟩ := hv
  obtain ⟨m, rfl⟩ := Int.eq_ofNat_of_zero_le (show 0 ≤ n by omega)
  obtain ⟨j, rfl⟩ := Int.eq_ofNat_of_zero_le (show 0 ≤ k by omega)
  simp only [Int.toNat_natCast] at u1 u2 ⊢
  have hl := qvector_loop (N := N) (n0 := m) (by omega) hN N m j i [] (by simp) (by omega) (by omega) (by omega) u2 (by omega)
  rw [show (([] : List Int).length : Int) = 0 from rfl, List.nil_append] at hl
  rw [hl, obind_of]

/-! ### The same lists -/
end
end Go.Pl
/-
  Layer 17: places of vectors by the program and its twin; the statements PvqNumbers, PvqOrder, PvqFirst.
  Conditions: none.
-/
namespace Go.Pl
open Go.Eng Go.Proofs
set_option maxRecDepth 100000

def psz (v : Int) : Int := if v < -65 ∨ v > 65 then 65 else v.natAbs
def psumL : List Int → Int
  | [] => 0
  | x :: r => psz x + psumL r
theorem sz1_cons (x : Int) (r : List Int) : sz1 (x :: r) = x.natAbs + sz1 r := by simp [sz1]
theorem sz1_small : ∀ y : List Int, sz1 y ≤ 64 → psumL y = sz1 y ∧ ∀ x ∈ y, x.natAbs ≤ 64
  | [], _ => ⟨rfl, by simp⟩
  | x :: r, h => by
    rw [sz1_cons] at h
    obtain ⟨i1, i2⟩ := sz1_small r (by omega)
    refine ⟨?_, fun z hz => ?_⟩
    · simp only [psumL, sz1_cons]
      unfold psz
      rw [if_neg (by omega)]
      omega
    · rcases List.mem_cons.1 hz with rfl | hz
      · omega
      · exact i2 z hz

theorem get_at (pre : List Int) (x : Int) (r : List Int) : (pre ++ x :: r).getD pre.length 0 = x := by simp [List.getD_eq_getElem?_getD]

section
variable {N : Nat}
/-! ### The twin's -/
/-! ### Order -/
/-! ### The first and the last -/
end
end Go.Pl
/-
  Layer 20: pulses are filled by both books alike; the sum of squares is near.
  Conditions: none.
-/
namespace Go.Pl
open Go.Eng Go.Proofs

def ok64 : List Int → Bool
  | [] => true
  | x :: r => decide (-64 ≤ x ∧ x ≤ 64) && ok64 r
def ssq : List Int → Int
  | [] => 0
  | x :: r => x * x + ssq r
theorem ok64_iff : ∀ y : List Int, ok64 y = true ↔ ∀ x ∈ y, -64 ≤ x ∧ x ≤ 64
  | [] => by simp [ok64]
  | x :: r => by simp [ok64, ok64_iff r]
theorem sq_nonneg (x : Int) : 0 ≤ x * x := by
  rcases Int.le_total 0 x with h | h
  · exact Int.mul_nonneg h h
  · have := Int.mul_nonneg (show 0 ≤ -x by omega) (show 0 ≤ -x by omega)
    rwa [Int.neg_mul_neg] at this
theorem sq64 {x : Int} (h0 : -64 ≤ x) (h1 : x ≤ 64) : x * x ≤ 4096 := by
  have h2 : 0 ≤ (64 - x) * (64 + x) := Int.mul_nonneg (by omega) (by omega)
  have h3 : (64 - x) * (64 + x) = 4096 - x * x := by grind
  omega
theorem ssq_nonneg : ∀ y : List Int, 0 ≤ ssq y
  | [] => Int.le_refl _
  | x :: r => by have := sq_nonneg x; have := ssq_nonneg r; simp only [ssq]; omega
theorem ssq_le : ∀ y : List Int, ok64 y = true → ssq y ≤ 4096 * y.length
  | [], _ => by simp [ssq]
  | x :: r, h => by
    simp only [ok64, Bool.and_eq_true, decide_eq_true_eq] at h
    have := sq64 h.1.1 h.1.2
    have := ssq_le r h.2
    simp only [ssq, List.length_cons]; omega
/-- The root of a number, rounded down. -/
noncomputable def rt (a : Int) : Int := Classical.epsilon fun r => Root r a
theorem rt_of {r a : Int} (h : Root r a) : rt a = r := (Classical.epsilon_spec (p := fun r => Root r a) ⟨r, h⟩).eq h

def fl (size r t : Int) (y : List Int) : List Int := y.map fun v => size * v * t / r
noncomputable def fillV (size : Int) (y : List Int) : List Int := if ssq y = 0 then List.replicate y.length 0 else fl size (rt (1048576 * ssq y)) (rt (1048576 * y.length)) y
def FillOk (y : List Int) (size : Int) : Prop := 1 ≤ y.length ∧ y.length ≤ 16 ∧ 0 ≤ size ∧ size ≤ 33554432 ∧ ok64 y = true
theorem fillV_len (size : Int) (y : List Int) : (fillV size y).length = y.length := by
  unfold fillV fl
  split <;> simp

theorem root_t {t : Int} {n : Nat} (hn : n ≤ 16) (h : Root t (1048576 * n)) : t ≤ 4096 := by
  rcases Int.lt_or_le 4096 t with c | c
  · have := h.l
    have h2 : 4097 * 4097 ≤ t * t := Int.mul_le_mul c c (by omega) (by omega)
    omega
  · exact c
theorem root_r {r s : Int} (hs : 1 ≤ s) (h : Root r (1048576 * s)) : 1024 ≤ r := by
  rcases Int.lt_or_le r 1024 with c | c
  · have h1 := h.u
    have h3 := h.p
    have h2 : (r + 1) * (r + 1) ≤ 1024 * 1024 := Int.mul_le_mul (by omega) (by omega) (by omega) (by omega)
    omega
  · exact c
theorem fill_mul {size v t : Int} (s0 : 0 ≤ size) (s1 : size ≤ 33554432) (v0 : -64 ≤ v) (v1 : v ≤ 64) (t0 : 0 ≤ t) (t1 : t ≤ 4096) :
    (-2147483648 ≤ size * v ∧ size * v ≤ 2147483648) ∧ (-8796093022208 ≤ size * v * t ∧ size * v * t ≤ 8796093022208) := by
  have a1 : size * v ≤ size * 64 := Int.mul_le_mul_of_nonneg_left v1 s0
  have a2 : size * -64 ≤ size * v := Int.mul_le_mul_of_nonneg_left v0 s0
  have b1 : size * v * t ≤ 2147483648 * t := Int.mul_le_mul_of_nonneg_right (by omega) t0
  have b2 : -2147483648 * t ≤ size * v * t := Int.mul_le_mul_of_nonneg_right (by omega) t0
  omega

section
variable {N : Nat}
theorem sfill_loop5 {y ey : List Int} {es : Int} (hl : y.length ≤ 16) : ∀ (nn : Nat) (r pre : List Int) (s : Int), y = pre ++ r → r.length < nn → 0 ≤ s → s ≤ 4096 * pre.length →
    (ok64 r = true → Rc.sfill.loop5 N nn es ey y.length y 0 s pre.length [] = some (.inl (0, s + ssq r, []))) ∧ (ok64 r = false → Rc.sfill.loop5 N nn es ey y.length y 0 s pre.length [] = some (.inr (1, [])))
  | 0, r, pre, s, _, h, _, _ => by omega
  | nn + 1, r, pre, s, hy, h, s0, s1 => by
    unfold Rc.sfill.loop5
    simp only [br_dec, chkL_same, chkI_same]
    have hlen : y.length = pre.length + r.length := by rw [hy, List.length_append]
    cases r with
    | nil => rw [if_neg (by simp at hlen; omega)]; simp [ssq, ok64]
    | cons x r =>
      simp only [List.length_cons] at hlen h
      have hg : y.getD pre.length 0 = x := by rw [hy, get_at]
      rw [if_pos (by omega), chk_pos (by omega), Int.toNat_natCast, hg]
      simp only [ok64, Bool.and_eq_true, decide_eq_true_eq, Bool.and_eq_false_imp]
      by_cases c1 : x < -64
      · rw [if_pos c1]
        exact ⟨fun hh => by omega, fun _ => rfl⟩
      rw [if_neg c1]
      by_cases c2 : x > 64
      · rw [if_pos c2]
        exact ⟨fun hh => by omega, fun _ => rfl⟩
      have hq := sq64 (x := x) (by omega) (by omega)
      have hq0 := sq_nonneg x
      rw [if_neg c2, i64 (x := x * x) (by omega) (by omega), i64 (x := s + x * x) (by omega) (by omega), i64 (x := (pre.length : Int) + 1) (by omega) (by omega)]
      have ih := sfill_loop5 (ey := ey) (es := es) hl nn r (pre ++ [x]) (s + x * x) (by rw [hy]; simp) (by omega) (by omega) (by simp; omega)
      rw [show (((pre ++ [x]).length : Nat) : Int) = (pre.length : Int) + 1 by simp] at ih
      refine ⟨fun hh => ?_, fun hh => ih.2 (hh (by omega))⟩
      rw [ih.1 hh.2]
      simp only [ssq]
      rw [Int.add_assoc]

theorem sfill_loop16 {y : List Int} {size rr t : Int} (hl : y.length ≤ 16) (s0 : 0 ≤ size) (s1 : size ≤ 33554432) (t0 : 0 ≤ t) (t1 : t ≤ 4096) (r0 : 0 < rr) : ∀ (nn : Nat) (r pre A : List Int), y = pre ++ r → A.length = pre.length → r.length < nn → ok64 r = true →
    Rc.sfill.loop16 N nn size rr t y.length y pre.length (A ++ List.replicate r.length 0) = some (A ++ fl size rr t r)
  | 0, r, pre, A, _, _, h, _ => by omega
  | nn + 1, r, pre, A, hy, hA, h, ho => by
    unfold Rc.sfill.loop16
    simp only [br_dec, chkL_same, chkI_same]
    have hlen : y.length = pre.length + r.length := by rw [hy, List.length_append]
    cases r with
    | nil => rw [if_neg (by simp at hlen; omega)]; simp [fl]
    | cons x r =>
      simp only [List.length_cons] at hlen h
      simp only [ok64, Bool.and_eq_true, decide_eq_true_eq] at ho
      have hg : y.getD pre.length 0 = x := by rw [hy, get_at]
      have hm := fill_mul s0 s1 ho.1.1 ho.1.2 t0 t1
      rw [if_pos (by omega), chk_pos (by omega), Int.toNat_natCast, hg, i64 (x := size * x) (by omega) (by omega), i64 (x := size * x * t) (by omega) (by omega), sdown_F r0 (by omega) (by omega), obind_of, chk_pos (by simp; omega), i64 (x := (pre.length : Int) + 1) (by omega) (by omega)]
      have hs : (A ++ List.replicate (r.length + 1) (0 : Int)).set pre.length (size * x * t / rr) = (A ++ [size * x * t / rr]) ++ List.replicate r.length 0 := by
        rw [List.replicate_succ, ← hA, List.set_append_right _ _ (Nat.le_refl _)]
        simp
      rw [List.length_cons, hs]
      have ih := sfill_loop16 hl s0 s1 t0 t1 r0 nn r (pre ++ [x]) (A ++ [size * x * t / rr]) (by rw [hy]; simp) (by simp; omega) (by omega) ho.2
      rw [show (((pre ++ [x]).length : Nat) : Int) = (pre.length : Int) + 1 by simp] at ih
      rw [ih]
      simp [fl]

theorem rfill_loop3 {y : List Int} (hl : y.length ≤ 16) : ∀ (nn : Nat) (r pre : List Int) (s : Int), y = pre ++ r → r.length < nn → 0 ≤ s → s ≤ 4096 * pre.length → ok64 r = true →
    Rc.rfill.loop3 N nn y s pre.length = some (s + ssq r)
  | 0, r, pre, s, _, h, _, _, _ => by omega
  | nn + 1, r, pre, s, hy, h, s0, s1, ho => by
    unfold Rc.rfill.loop3
    simp only [br_dec, chkL_same]
    have hlen : y.length = pre.length + r.length := by rw [hy, List.length_append]
    cases r with
    | nil => rw [if_neg (by simp at hlen; omega)]; simp [ssq]
    | cons x r =>
      simp only [List.length_cons] at hlen h
      simp only [ok64, Bool.and_eq_true, decide_eq_true_eq] at ho
      have hg : y.getD pre.length 0 = x := by rw [hy, get_at]
      have hq := sq64 (x := x) (by omega) (by omega)
      have hq0 := sq_nonneg x
      rw [if_pos (by omega), chk_pos (by omega), chk_pos (by omega), Int.toNat_natCast, hg, i64 (x := x * x) (by omega) (by omega), i64 (x := s + x * x) (by omega) (by omega), i64 (x := (pre.length : Int) + 1) (by omega) (by omega)]
      have ih := rfill_loop3 hl nn r (pre ++ [x]) (s + x * x) (by rw [hy]; simp) (by omega) (by omega) (by simp; omega) ho.2
      rw [show (((pre ++ [x]).length : Nat) : Int) = (pre.length : Int) + 1 by simp] at ih
      rw [ih]
      simp only [ssq]
      rw [Int.add_assoc]

theorem rfill_loop12 {y : List Int} {size rr t : Int} (hl : y.length ≤ 16) (s0 : 0 ≤ size) (s1 : size ≤ 33554432) (t0 : 0 ≤ t) (t1 : t ≤ 4096) (r0 : 0 < rr) : ∀ (nn : Nat) (r pre A : List Int), y = pre ++ r → A.length = pre.length → r.length < nn → ok64 r = true →
    Rc.rfill.loop12 N nn size rr t y pre.length (A ++ List.replicate r.length 0) = some (A ++ fl size rr t r)
  | 0, r, pre, A, _, _, h, _ => by omega
  | nn + 1, r, pre, A, hy, hA, h, ho => by
    unfold Rc.rfill.loop12
    simp only [br_dec, chkL_same, chkI_same]
    have hlen : y.length = pre.length + r.length := by rw [hy, List.length_append]
    cases r with
    | nil => rw [if_neg (by simp at hlen; omega)]; simp [fl]
    | cons x r =>
      simp only [List.length_cons] at hlen h
      simp only [ok64, Bool.and_eq_true, decide_eq_true_eq] at ho
      have hg : y.getD pre.length 0 = x := by rw [hy, get_at]
      have hm := fill_mul s0 s1 ho.1.1 ho.1.2 t0 t1
      rw [if_pos (by omega), chk_pos (by omega), Int.toNat_natCast, hg, i64 (x := size * x) (by omega) (by omega), i64 (x := size * x * t) (by omega) (by omega), rdown_F r0 (by omega) (by omega), obind_of, chk_pos (by simp; omega), i64 (x := (pre.length : Int) + 1) (by omega) (by omega)]
      have hs : (A ++ List.replicate (r.length + 1) (0 : Int)).set pre.length (size * x * t / rr) = (A ++ [size * x * t / rr]) ++ List.replicate r.length 0 := by
        rw [List.replicate_succ, ← hA, List.set_append_right _ _ (Nat.le_refl _)]
        simp
      rw [List.length_cons, hs]
      have ih := rfill_loop12 hl s0 s1 t0 t1 r0 nn r (pre ++ [x]) (A ++ [size * x * t / rr]) (by rw [hy]; simp) (by simp; omega) (by omega) ho.2
      rw [show (((pre ++ [x]).length : Nat) : Int) = (pre.length : Int) + 1 by simp] at ih
      rw [ih]
      simp [fl]

theorem sfill_both (hN : 200 ≤ N) (size : Int) (y : List Int) : (FillOk y size → Rc.sfill.F N size y = some (0, fillV size y)) ∧ (¬ FillOk y size → Rc.sfill.F N size y = some (1, [])) := by
  unfold Rc.sfill.F FillOk
  simp only [br_dec]
  by_cases c1 : (y.length : Int) < 1
  · rw [if_pos c1]; exact ⟨fun h => by omega, fun _ => rfl⟩
  rw [if_neg c1]
  by_cases c2 : (y.length : Int) > 16
  · rw [if_pos c2]; exact ⟨fun h => by omega, fun _ => rfl⟩
  rw [if_neg c2]
  by_cases c3 : size < 0
  · rw [if_pos c3]; exact ⟨fun h => by omega, fun _ => rfl⟩
  rw [if_neg c3]
  by_cases c4 : size > 33554432
  · rw [if_pos c4]; exact ⟨fun h => by omega, fun _ => rfl⟩
  rw [if_neg c4]
  have hl := sfill_loop5 (N := N) (ey := y) (es := size) (y := y) (by omega) N y [] 0 rfl (by omega) (by omega) (by simp)
  rw [List.length_nil, show ((0 : Nat) : Int) = 0 from rfl] at hl
  by_cases c5 : ok64 y = true
  · have hs0 := ssq_nonneg y
    have hs1 := ssq_le y c5
    rw [hl.1 c5, osum_inl, chk_pos (by omega), Int.zero_add, br_beq]
    refine ⟨fun _ => ?_, fun h => absurd ⟨by omega, by omega, by omega, by omega, c5⟩ h⟩
    simp only [Int.toNat_natCast]
    unfold fillV
    by_cases c6 : ssq y = 0
    · rw [if_pos c6, if_pos c6]
    · obtain ⟨r, e1, g1, _⟩ := fsqrt_F (N := N) (a := 1048576 * ssq y) (by omega) (by omega) (by omega)
      obtain ⟨t, e2, g2, _⟩ := fsqrt_F (N := N) (a := 1048576 * y.length) (by omega) (by omega) (by omega)
      have ht := root_t (by omega) g2
      have hr := root_r (by omega) g1
      have h16 := sfill_loop16 (N := N) (y := y) (size := size) (rr := r) (t := t) (by omega) (by omega) (by omega) g2.p ht (by omega) N y [] [] rfl rfl (by omega) c5
      rw [List.length_nil, List.nil_append, List.nil_append, show ((0 : Nat) : Int) = 0 from rfl] at h16
      rw [if_neg c6, if_neg c6, i64 (by omega) (by omega), e1, obind_of, i64 (by omega) (by omega), e2, obind_of, h16, obind_of, rt_of g1, rt_of g2]
  · rw [hl.2 (by simpa using c5)]
    exact ⟨fun h => absurd h.2.2.2.2 c5, fun _ => rfl⟩

theorem sfill_F (hN : 200 ≤ N) {size : Int} {y : List Int} (h : FillOk y size) : Rc.sfill.F N size y = some (0, fillV size y) := (sfill_both hN size y).1 h
theorem rfill_F (hN : 200 ≤ N) (size : Int) (y : List Int) (h : FillOk y size) : Rc.rfill.F N size y = some (fillV size y) := by
  obtain ⟨h1, h2, h3, h4, h5⟩ := h
  unfold Rc.rfill.F ltI
  have hl := rfill_loop3 (N := N) (y := y) (by omega) N y [] 0 rfl (by omega) (by omega) (by simp) h5
  rw [List.length_nil, show ((0 : Nat) : Int) = 0 from rfl] at hl
  have hs0 := ssq_nonneg y
  have hs1 := ssq_le y h5
  rw [hl, obind_of, chk_pos (by omega), Int.zero_add, br_beq, show ((2 : Int) ^ min (Int.toNat 20) IntKind.i64.bits) = 1048576 from rfl]
  simp only [Int.toNat_natCast]
  unfold fillV
  by_cases c6 : ssq y = 0
  · rw [if_pos c6, if_pos c6]
  · obtain ⟨r, e1, g1⟩ := rsqrt_F (N := N) (a := 1048576 * ssq y) (by omega) (by omega) (by omega)
    obtain ⟨t, e2, g2⟩ := rsqrt_F (N := N) (a := 1048576 * y.length) (by omega) (by omega) (by omega)
    have ht := root_t (by omega) g2
    have hr := root_r (by omega) g1
    have h16 := rfill_loop12 (N := N) (y := y) (size := size) (rr := r) (t := t) (by omega) (by omega) (by omega) g2.p ht (by omega) N y [] [] rfl rfl (by omega) h5
    rw [List.length_nil, List.nil_append, List.nil_append, show ((0 : Nat) : Int) = 0 from rfl] at h16
    rw [if_neg c6, if_neg c6, i64 (by omega) (by omega), Int.mul_comm (ssq y), e1, obind_of, i64 (by omega) (by omega), Int.mul_comm ((y.length : Nat) : Int), e2, obind_of, h16, obind_of, rt_of g1, rt_of g2]
end

/-! ### The sum of squares -/
end Go.Pl
/-
  Layer 20: the sum of squares of what is filled; ShapeFills.
  Conditions: none.
-/
namespace Go.Pl
open Go.Eng Go.Proofs

section
variable {N : Nat}
end

end Go.Pl
/-
  Plain words: how many bits a number has; the code's two ways to count them.
  Conditions: none.
-/
namespace Go.Pl
open Go.Eng Go.Proofs

/-- How many bits a number has. -/
def bl (x : Int) : Int := if x ≤ 0 then 0 else (x.toNat.log2 : Int) + 1

theorem bl_of {x : Int} {k : Nat} (h0 : 2 ^ k ≤ x) (h1 : x < 2 ^ (k + 1)) : bl x = k + 1 := by
  have hp := p2pos k
  obtain ⟨n, rfl⟩ := Int.eq_ofNat_of_zero_le (show 0 ≤ x by omega)
  have g0 : 2 ^ k ≤ n := by exact_mod_cast h0
  have g1 : n < 2 ^ (k + 1) := by exact_mod_cast h1
  have hn : n ≠ 0 := by have := Nat.two_pow_pos k; omega
  unfold bl
  rw [if_neg (by omega), Int.toNat_natCast]
  have e1 := (Nat.le_log2 hn).2 g0
  have e2 := (Nat.log2_lt hn).2 g1
  omega

theorem bl_spec {x : Int} (h : 1 ≤ x) : ∃ k : Nat, bl x = k + 1 ∧ 2 ^ k ≤ x ∧ x < 2 ^ (k + 1) := by
  obtain ⟨n, rfl⟩ := Int.eq_ofNat_of_zero_le (show 0 ≤ x by omega)
  have hn : n ≠ 0 := by omega
  refine ⟨n.log2, ?_, by exact_mod_cast Nat.log2_self_le hn, by exact_mod_cast Nat.lt_log2_self⟩
  unfold bl
  rw [if_neg (by omega), Int.toNat_natCast]

theorem bl_zero {x : Int} (h : x ≤ 0) : bl x = 0 := by unfold bl; rw [if_pos h]

theorem bl_nonneg (x : Int) : 0 ≤ bl x := by unfold bl; split <;> omega

theorem bl_mono {x y : Int} (h : x ≤ y) : bl x ≤ bl y := by
  rcases Int.lt_or_le x 1 with h1 | h1
  · rw [bl_zero (by omega)]; exact bl_nonneg y
  · obtain ⟨k, e1, a1, a2⟩ := bl_spec h1
    obtain ⟨j, e2, c1, c2⟩ := bl_spec (x := y) (by omega)
    rw [e1, e2]
    rcases Nat.lt_or_ge j k with hj | hj
    · have := p2le (a := j + 1) (b := k) hj
      omega
    · omega

theorem bl_le {x : Int} {n : Nat} (h : x < 2 ^ n) : bl x ≤ n := by
  rcases Int.lt_or_le x 1 with h1 | h1
  · rw [bl_zero (by omega)]; omega
  · obtain ⟨k, e1, a1, a2⟩ := bl_spec h1
    rcases Nat.lt_or_ge k n with hj | hj
    · omega
    · have := p2le (a := n) (b := k) hj; omega

theorem bl_shift {x : Int} (s : Nat) (h : 1 ≤ x / 2 ^ s) : bl x = s + bl (x / 2 ^ s) := by
  obtain ⟨k, e1, a1, a2⟩ := bl_spec h
  have hp := p2pos s
  have h1 := Int.ediv_mul_le x (show (2 : Int) ^ s ≠ 0 by omega)
  have h2 := Int.lt_ediv_add_one_mul_self x hp
  have h3 : (2 : Int) ^ k * 2 ^ s ≤ x / 2 ^ s * 2 ^ s := Int.mul_le_mul_of_nonneg_right a1 (by omega)
  have h4 : (x / 2 ^ s + 1) * 2 ^ s ≤ 2 ^ (k + 1) * 2 ^ s := Int.mul_le_mul_of_nonneg_right (by omega) (by omega)
  rw [← Int.pow_add] at h3 h4
  rw [e1, bl_of (k := k + s) (by omega) (by rw [show k + s + 1 = k + 1 + s by omega]; omega)]
  omega

def tab8 : List Int := [0, 1, 2, 2, 3, 3, 3, 3, 4, 4, 4, 4, 4, 4, 4, 4, 5, 5, 5, 5, 5, 5, 5, 5, 5, 5, 5, 5, 5, 5, 5, 5, 6, 6, 6, 6, 6, 6, 6, 6, 6, 6, 6, 6, 6, 6, 6, 6, 6, 6, 6, 6, 6, 6, 6, 6, 6, 6, 6, 6, 6, 6, 6, 6, 7, 7, 7, 7, 7, 7, 7, 7, 7, 7, 7, 7, 7, 7, 7, 7, 7, 7, 7, 7, 7, 7, 7, 7, 7, 7, 7, 7, 7, 7, 7, 7, 7, 7, 7, 7, 7, 7, 7, 7, 7, 7, 7, 7, 7, 7, 7, 7, 7, 7, 7, 7, 7, 7, 7, 7, 7, 7, 7, 7, 7, 7, 7, 7, 8, 8, 8, 8, 8, 8, 8, 8, 8, 8, 8, 8, 8, 8, 8, 8, 8, 8, 8, 8, 8, 8, 8, 8, 8, 8, 8, 8, 8, 8, 8, 8, 8, 8, 8, 8, 8, 8, 8, 8, 8, 8, 8, 8, 8, 8, 8, 8, 8, 8, 8, 8, 8, 8, 8, 8, 8, 8, 8, 8, 8, 8, 8, 8, 8, 8, 8, 8, 8, 8, 8, 8, 8, 8, 8, 8, 8, 8, 8, 8, 8, 8, 8, 8, 8, 8, 8, 8, 8, 8, 8, 8, 8, 8, 8, 8, 8, 8, 8, 8, 8, 8, 8, 8, 8, 8, 8, 8, 8, 8, 8, 8, 8, 8, 8, 8, 8, 8, 8, 8, 8, 8, 8, 8, 8, 8, 8, 8]

theorem tab8_all : ∀ y : Fin 256, tab8.getD y.val 0 = (if y.val = 0 then 0 else (y.val.log2 : Int) + 1) := by decide +kernel

theorem tab8_get {y : Int} (h0 : 0 ≤ y) (h1 : y < 256) : tab8.getD y.toNat 0 = bl y := by
  have := tab8_all ⟨y.toNat, by omega⟩
  simp only at this
  rw [this]
  unfold bl
  by_cases h : y ≤ 0
  · rw [if_pos (by omega), if_pos h]
  · rw [if_neg (by omega), if_neg h]

theorem p32 : (2 : Int) ^ min (Int.toNat (32 : Int)) IntKind.u64.bits = 4294967296 := rfl
theorem fd256 (a : Int) : a.fdiv 256 = a / 256 := fdiv_ediv (by omega)
theorem fd65536 (a : Int) : a.fdiv 65536 = a / 65536 := fdiv_ediv (by omega)
theorem fd32 (a : Int) : a.fdiv 4294967296 = a / 4294967296 := fdiv_ediv (by omega)
theorem p16 : (2 : Int) ^ min (Int.toNat (16 : Int)) IntKind.u64.bits = 65536 := rfl

set_option maxRecDepth 100000 in
theorem len64_F {N : Nat} {x : Int} (h0 : 0 ≤ x) (h1 : x < 18446744073709551616) : Rc.len64.F N x = some (bl x) := by
  have hL : Rc.len64.F N x = Rc.len64.F N x := rfl
  unfold Rc.len64.F at hL ⊢
  generalize hT : ([(0 : Int), (1 : Int), (2 : Int), (2 : Int), (3 : Int), (3 : Int), (3 : Int), (3 : Int), (4 : Int), (4 : Int), (4 : Int), (4 : Int), (4 : Int), (4 : Int), (4 : Int), (4 : Int), (5 : Int), (5 : Int), (5 : Int), (5 : Int), (5 : Int), (5 : Int), (5 : Int), (5 : Int), (5 : Int), (5 : Int), (5 : Int), (5 : Int), (5 : Int), (5 : Int), (5 : Int), (5 : Int), (6 : Int), (6 : Int), (6 : Int), (6 : Int), (6 : Int), (6 : Int), (6 : Int), (6 : Int), (6 : Int), (6 : Int), (6 : Int), (6 : Int), (6 : Int), (6 : Int), (6 : Int), (6 : Int), (6 : Int), (6 : Int), (6 : Int), (6 : Int), (6 : Int), (6 : Int), (6 : Int), (6 : Int), (6 : Int), (6 : Int), (6 : Int), (6 : Int), (6 : Int), (6 : Int), (6 : Int), (6 : Int), (7 : Int), (7 : Int), (7 : Int), (7 : Int), (7 : Int), (7 : Int), (7 : Int), (7 : Int), (7 : Int), (7 : Int), (7 : Int), (7 : Int), (7 : Int), (7 : Int), (7 : Int), (7 : Int), (7 : Int), (7 : Int), (7 : Int), (7 : Int), (7 : Int), (7 : Int), (7 : Int), (7 : Int), (7 : Int), (7 : Int), (7 : Int), (7 : Int), (7 : Int), (7 : Int), (7 : Int), (7 : Int), (7 : Int), (7 : Int), (7 : Int), (7 : Int), (7 : Int), (7 : Int), (7 : Int), (7 : Int), (7 : Int), (7 : Int), (7 : Int), (7 : Int), (7 : Int), (7 : Int), (7 : Int), (7 : Int), (7 : Int), (7 : Int), (7 : Int), (7 : Int), (7 : Int), (7 : Int), (7 : Int), (7 : Int), (7 : Int), (7 : Int), (7 : Int), (7 : Int), (7 : Int), (7 : Int), (7 : Int), (7 : Int), (8 : Int), (8 : Int), (8 : Int), (8 : Int), (8 : Int), (8 : Int), (8 : Int), (8 : Int), (8 : Int), (8 : Int), (8 : Int), (8 : Int), (8 : Int), (8 : Int), (8 : Int), (8 : Int), (8 : Int), (8 : Int), (8 : Int), (8 : Int), (8 : Int), (8 : Int), (8 : Int), (8 : Int), (8 : Int), (8 : Int), (8 : Int), (8 : Int), (8 : Int), (8 : Int), (8 : Int), (8 : Int), (8 : Int), (8 : Int), (8 : Int), (8 : Int), (8 : Int), (8 : Int), (8 : Int), (8 : Int), (8 : Int), (8 : Int), (8 : Int), (8 : Int), (8 : Int), (8 : Int), (8 : Int), (8 : Int), (8 : Int), (8 : Int), (8 : Int), (8 : Int), (8 : Int), (8 : Int), (8 : Int), (8 : Int), (8 : Int), (8 : Int), (8 : Int), (8 : Int), (8 : Int), (8 : Int), (8 : Int), (8 : Int), (8 : Int), (8 : Int), (8 : Int), (8 : Int), (8 : Int), (8 : Int), (8 : Int), (8 : Int), (8 : Int), (8 : Int), (8 : Int), (8 : Int), (8 : Int), (8 : Int), (8 : Int), (8 : Int), (8 : Int), (8 : Int), (8 : Int), (8 : Int), (8 : Int), (8 : Int), (8 : Int), (8 : Int), (8 : Int), (8 : Int), (8 : Int), (8 : Int), (8 : Int), (8 : Int), (8 : Int), (8 : Int), (8 : Int), (8 : Int), (8 : Int), (8 : Int), (8 : Int), (8 : Int), (8 : Int), (8 : Int), (8 : Int), (8 : Int), (8 : Int), (8 : Int), (8 : Int), (8 : Int), (8 : Int), (8 : Int), (8 : Int), (8 : Int), (8 : Int), (8 : Int), (8 : Int), (8 : Int), (8 : Int), (8 : Int), (8 : Int), (8 : Int), (8 : Int), (8 : Int), (8 : Int), (8 : Int), (8 : Int), (8 : Int)] : List Int) = T
  replace hT : T = tab8 := hT.symm
  subst hT
  simp only [p32, p16, p8, br_dec, ge_iff_le, fd256, fd65536, fd32]
  have sh : ∀ (s : Nat) (y : Int), x / 2 ^ s = y → (s = 0 ∨ 1 ≤ y) → bl x = s + bl y := by
    intro s y hy hs
    subst hy
    rcases hs with rfl | hs
    · simp
    · exact bl_shift s hs
  have fin : ∀ (s : Nat) (y : Int), x / 2 ^ s = y → (s = 0 ∨ 1 ≤ y) → 0 ≤ y → y < 256 → s ≤ 56 → ∀ z : Int, z = s → IntKind.i64.wrap (z + IntKind.i64.wrap (tab8.getD y.toNat 0)) = bl x := by
    intro s y hy hs hy0 hy1 hs2 z hz
    have b0 := bl_nonneg y
    have b1 := bl_le (n := 8) (x := y) (by show y < 256; exact hy1)
    rw [tab8_get hy0 hy1, i64 (x := bl y) (by omega) (by omega), i64 (by omega) (by omega), sh s y hy hs, hz]
  by_cases a1 : 4294967296 ≤ x
  · rw [if_pos a1]
    by_cases a2 : 65536 ≤ x / 4294967296
    · rw [if_pos a2]
      by_cases a3 : 256 ≤ x / 4294967296 / 65536
      · rw [if_pos a3]
        refine (chk_pos (by rw [u8 (by omega) (by omega)]; omega) _).trans ?_
        rw [u8 (by omega) (by omega)]
        exact congrArg some (fin 56 _ (by show x / 72057594037927936 = _; omega) (Or.inr (by omega)) (by omega) (by omega) (by omega) _ rfl)
      · rw [if_neg a3]
        refine (chk_pos (by rw [u8 (by omega) (by omega)]; omega) _).trans ?_
        rw [u8 (by omega) (by omega)]
        exact congrArg some (fin 48 _ (by show x / 281474976710656 = _; omega) (Or.inr (by omega)) (by omega) (by omega) (by omega) _ rfl)
    · rw [if_neg a2]
      by_cases a3 : 256 ≤ x / 4294967296
      · rw [if_pos a3]
        refine (chk_pos (by rw [u8 (by omega) (by omega)]; omega) _).trans ?_
        rw [u8 (by omega) (by omega)]
        exact congrArg some (fin 40 _ (by show x / 1099511627776 = _; omega) (Or.inr (by omega)) (by omega) (by omega) (by omega) _ rfl)
      · rw [if_neg a3]
        refine (chk_pos (by rw [u8 (by omega) (by omega)]; omega) _).trans ?_
        rw [u8 (by omega) (by omega)]
        exact congrArg some (fin 32 _ (by show x / 4294967296 = _; omega) (Or.inr (by omega)) (by omega) (by omega) (by omega) _ rfl)
  · rw [if_neg a1]
    by_cases a2 : 65536 ≤ x
    · rw [if_pos a2]
      by_cases a3 : 256 ≤ x / 65536
      · rw [if_pos a3]
        refine (chk_pos (by rw [u8 (by omega) (by omega)]; omega) _).trans ?_
        rw [u8 (by omega) (by omega)]
        exact congrArg some (fin 24 _ (by show x / 16777216 = _; omega) (Or.inr (by omega)) (by omega) (by omega) (by omega) _ rfl)
      · rw [if_neg a3]
        refine (chk_pos (by rw [u8 (by omega) (by omega)]; omega) _).trans ?_
        rw [u8 (by omega) (by omega)]
        exact congrArg some (fin 16 _ (by show x / 65536 = _; omega) (Or.inr (by omega)) (by omega) (by omega) (by omega) _ rfl)
    · rw [if_neg a2]
      by_cases a3 : 256 ≤ x
      · rw [if_pos a3]
        refine (chk_pos (by rw [u8 (by omega) (by omega)]; omega) _).trans ?_
        rw [u8 (by omega) (by omega)]
        exact congrArg some (fin 8 _ (by show x / 256 = _; omega) (Or.inr (by omega)) (by omega) (by omega) (by omega) _ rfl)
      · rw [if_neg a3]
        refine (chk_pos (by rw [u8 (by omega) (by omega)]; omega) _).trans ?_
        rw [u8 (by omega) (by omega)]
        exact congrArg some (fin 0 _ (by simp) (Or.inl rfl) (by omega) (by omega) (by omega) _ rfl)

theorem blen_F {N : Nat} {x : Int} (h0 : 0 ≤ x) (h1 : x < 18446744073709551616) : Rc.blen.F N x = some (bl x) := by
  unfold Rc.blen.F
  rw [len64_F h0 h1]
  rfl

theorem bl_half {x : Int} (h : 1 ≤ x) : bl x = bl (x / 2) + 1 := by
  by_cases h2 : 2 ≤ x
  · have := bl_shift (x := x) 1 (by show 1 ≤ x / 2; omega)
    rw [this]
    show ((1 : Nat) : Int) + bl (x / 2) = _
    omega
  · have : x = 1 := by omega
    subst this
    decide

theorem rlen_loop {N : Nat} : ∀ (nn : Nat) (f : Nat) (a n : Int), a < 2 ^ f → a ≤ 9223372036854775807 → 0 ≤ n → n + f ≤ 1000 → f < nn → Rc.rlen.loop2 N nn a n = some (n + bl a)
  | 0, f, a, n, _, _, _, _, h => by omega
  | nn + 1, f, a, n, h1, h2, h3, h4, h => by
    unfold Rc.rlen.loop2
    simp only [br_dec]
    by_cases ha : a > 0
    · rw [if_pos ha, tdiv_ediv (by omega), i64 (x := a / 2) (by omega) (by omega), i64 (x := n + 1) (by omega) (by omega)]
      cases f with
      | zero => simp at h1; omega
      | succ f =>
        rw [Int.pow_succ] at h1
        rw [rlen_loop nn f (a / 2) (n + 1) (by omega) (by omega) (by omega) (by omega) (by omega), bl_half (x := a) (by omega)]
        exact congrArg some (by omega : n + 1 + bl (a / 2) = n + (bl (a / 2) + 1))
    · rw [if_neg ha, bl_zero (by omega)]
      exact congrArg some (by omega : n = n + 0)

theorem rlen_F {N : Nat} {a : Int} (h : a ≤ 9223372036854775807) (hN : 300 ≤ N) : Rc.rlen.F N a = some (bl a) := by
  unfold Rc.rlen.F
  rw [rlen_loop N 63 a 0 (by show a < 9223372036854775808; omega) h (by omega) (by omega) (by omega), obind_of]
  exact congrArg some (by omega : 0 + bl a = bl a)

/-! ### Tell, Bad -/
def Q.tell (q : Q) (count : Int) : Int := count - bl q.rng

theorem Q.bl_range {q : Q} (h : q.Ok) : 24 ≤ bl q.rng ∧ bl q.rng ≤ 32 := by
  refine ⟨?_, bl_le (n := 32) (by show q.rng < 4294967296; have := h.r1; omega)⟩
  have := bl_mono (x := 8388608) (y := q.rng) (by have := h.r0; omega)
  have e : bl 8388608 = 24 := by decide +kernel
  omega

section
variable {N : Nat} {val last front back window waiting count : Int} {bad : Bool} {b : List Int}
theorem tell_F {q : Q} (h : q.Ok) (hc0 : 0 ≤ count) (hc1 : count < 1099511627776) : Rc.tell.F N q.rng val last front back window waiting count bad b = some (q.tell count) := by
  have := Q.bl_range h
  unfold Rc.tell.F
  simp only [chkI_same, chkB_same, chkL_same]
  rw [len64_F (by have := h.r0; omega) (by have := h.r1; omega), obind_of, i64 (by omega) (by omega)]
  rfl
end
section
variable {N : Nat} {val last front back wait waiting count eq : Int} {bad : Bool} {b : List Int}
theorem rtell_F {q : Q} (h : q.Ok) (hc0 : 0 ≤ count) (hc1 : count < 1099511627776) (hN : 300 ≤ N) : Rc.rtell.F N q.rng val last front back wait waiting count eq bad b = some (q.tell count) := by
  have := Q.bl_range h
  unfold Rc.rtell.F
  simp only [chkI_same, chkB_same, chkL_same]
  rw [i64 (x := q.rng) (by have := h.r0; omega) (by have := h.r1; omega), rlen_F (by have := h.r1; omega) hN, obind_of, i64 (by omega) (by omega)]
  rfl
end

/-! ### At first -/
def Q.new0 (b : List Int) : Q := ⟨128, 127 - nb b 0 / 2, nb b 0, 1⟩
def Q.new (b : List Int) : Q := (Q.new0 b).on b
def cnew (b : List Int) : Int := 9 + 8 * (((Q.new b).m - 1 : Nat) : Int)

theorem Q.new0_pre {b : List Int} (hb : Bytes b) : (Q.new0 b).Pre := by
  obtain ⟨h1, h2⟩ := nb_range hb 0
  unfold Q.new0
  exact ⟨by simp only; omega, by simp only; omega, by simp only; omega, by simp only; omega, h1, h2⟩
theorem Q.new_ok {b : List Int} (hb : Bytes b) : (Q.new b).Ok := Q.on_ok hb (Q.new0_pre hb)
theorem Q.new_m (b : List Int) : 1 ≤ (Q.new b).m ∧ (Q.new b).m ≤ 5 := Q.on_m b (Q.new0 b)

theorem clone8_F {N : Nat} {b : List Int} (hl : b.length < 1099511627776) : Rc.clone8.F2 N b = some b := by
  unfold Rc.clone8.F2
  rw [chk_pos (by omega)]

theorem new_F {N : Nat} {b : List Int} (hb : Bytes b) (hl : b.length < 1099511627776) (hN : 300 ≤ N) :
    Rc.new.F N b = some ((Q.new b).rng, (Q.new b).val, (Q.new b).last, fr b (Q.new b).m, 0, 0, 0, cnew b, false, b) := by
  unfold Rc.new.F
  obtain ⟨h1, h2⟩ := nb_range hb 0
  have hn := next_F (N := N) (rng := 128) (val := 0) (last := 0) (back := 0) (window := 0) (waiting := 0) (count := 9) (bad := false) hb hl 0
  rw [show fr b 0 = 0 by simp [fr]] at hn
  rw [clone8_F hl, obind_of, hn, obind_of]
  simp only [p1]
  rw [fdiv_ediv (by omega), u64 (by omega) (by omega)]
  have := norm_F (N := N) (back := 0) (window := 0) (waiting := 0) (count := 9) (bad := false) hb hl (Q.new0_pre hb) (by omega) (by omega) (by omega)
  simp only [Q.new0] at this
  rw [this]
  rfl

theorem rnew_F {N : Nat} {b : List Int} (hb : Bytes b) (hl : b.length < 1099511627776) (hN : 300 ≤ N) :
    Rc.rnew.F N b = some ((Q.new b).rng, (Q.new b).val, (Q.new b).last, fr b (Q.new b).m, 0, 0, 0, cnew b, 0, false, b) := by
  unfold Rc.rnew.F
  obtain ⟨h1, h2⟩ := nb_range hb 0
  have hn := rnext_F (N := N) (rng := 128) (val := 0) (last := 0) (back := 0) (wait := 0) (waiting := 0) (count := 9) (eq := 0) (bad := false) hb hl 0
  rw [show fr b 0 = 0 by simp [fr]] at hn
  rw [hn, obind_of]
  simp only
  rw [tdiv_ediv (by omega), i64 (x := nb b 0 / 2) (by omega) (by omega), i64 (x := 127 - _) (by omega) (by omega), u64 (by omega) (by omega)]
  have := ron_F (N := N) (back := 0) (wait := 0) (waiting := 0) (count := 9) (eq := 0) (bad := false) hb hl (Q.new0_pre hb) (by omega) (by omega) (by omega)
  simp only [Q.new0] at this
  rw [this]
  rfl
end Go.Pl
/-
  Plain words of chapter 3, those that hang on no law (taken out of the texts of L3 by split.py).
  Conditions: none.
-/
namespace Go.Pl
open Go.Eng Go.Proofs
theorem cnew_range (b : List Int) : 0 ≤ cnew b ∧ cnew b ≤ 41 := by
  have := Q.new_m b
  unfold cnew
  omega

theorem ct_range {b : List Int} {q q' : Q} (h : q.m ≤ q'.m ∧ q'.m ≤ q.m + 4) (c : Int) : c ≤ ct c q q' ∧ ct c q q' ≤ c + 32 := by
  unfold ct
  omega

/-- At first nothing waits. -/
def W.new : W := ⟨0, 0, 0⟩
theorem W.new_ok : W.new.Ok := ⟨by decide, by decide, by decide⟩

theorem Q.new_rng (b : List Int) : (Q.new b).rng = 2147483648 ∧ (Q.new b).m = 4 := by
  have : Q.new b = ((((Q.new0 b).step b).step b).step b) := rfl
  rw [this]
  exact ⟨rfl, rfl⟩

theorem cnew_eq (b : List Int) : cnew b = 1 + 8 * ((Q.new b).m : Int) := by
  have := (Q.new_rng b).2
  unfold cnew
  omega

/-- The bit number p from the end. -/
def bitE (b : List Int) (p : Nat) : Int := (eb b (p / 8) / 2 ^ (p % 8)) % 2

theorem bitE_range (b : List Int) (p : Nat) : 0 ≤ bitE b p ∧ bitE b p < 2 := by unfold bitE; omega

/-- n bits from P on. -/
def bsum (b : List Int) (P : Nat) : Nat → Int
  | 0 => 0
  | n + 1 => bsum b P n + bitE b (P + n) * 2 ^ n

theorem bsum_range (b : List Int) (P : Nat) : ∀ n, 0 ≤ bsum b P n ∧ bsum b P n < 2 ^ n
  | 0 => by simp [bsum]
  | n + 1 => by
    obtain ⟨h1, h2⟩ := bsum_range b P n
    obtain ⟨h3, h4⟩ := bitE_range b (P + n)
    have h5 := p2pos n
    have h6 : 0 ≤ bitE b (P + n) * 2 ^ n := Int.mul_nonneg h3 (by omega)
    have h7 : bitE b (P + n) * 2 ^ n ≤ 1 * 2 ^ n := Int.mul_le_mul_of_nonneg_right (by omega) (by omega)
    simp only [bsum, Int.pow_succ]
    omega

theorem bsum_split (b : List Int) (P a : Nat) : ∀ c, bsum b P (a + c) = bsum b P a + 2 ^ a * bsum b (P + a) c
  | 0 => by simp [bsum]
  | c + 1 => by
    rw [← Nat.add_assoc]
    simp only [bsum]
    rw [bsum_split b P a c, Int.pow_add, Nat.add_assoc P a c, Int.mul_add, ← Int.mul_assoc (2 ^ a), Int.mul_comm (2 ^ a) (bitE b _), Int.mul_assoc (bitE b _), Int.add_assoc]

theorem bsum_byte {b : List Int} (hb : Bytes b) (k : Nat) : bsum b (8 * k) 8 = eb b k := by
  obtain ⟨h1, h2⟩ := eb_range hb k
  simp only [bsum, bitE]
  rw [show (8 * k + 0) / 8 = k by omega, show (8 * k + 1) / 8 = k by omega, show (8 * k + 2) / 8 = k by omega, show (8 * k + 3) / 8 = k by omega, show (8 * k + 4) / 8 = k by omega, show (8 * k + 5) / 8 = k by omega, show (8 * k + 6) / 8 = k by omega, show (8 * k + 7) / 8 = k by omega]
  rw [show (8 * k + 0) % 8 = 0 by omega, show (8 * k + 1) % 8 = 1 by omega, show (8 * k + 2) % 8 = 2 by omega, show (8 * k + 3) % 8 = 3 by omega, show (8 * k + 4) % 8 = 4 by omega, show (8 * k + 5) % 8 = 5 by omega, show (8 * k + 6) % 8 = 6 by omega, show (8 * k + 7) % 8 = 7 by omega]
  generalize eb b k = x at h1 h2 ⊢
  have e0 : (2 : Int) ^ 0 = 1 := rfl
  have e1 : (2 : Int) ^ 1 = 2 := rfl
  have e2 : (2 : Int) ^ 2 = 4 := rfl
  have e3 : (2 : Int) ^ 3 = 8 := rfl
  have e4 : (2 : Int) ^ 4 = 16 := rfl
  have e5 : (2 : Int) ^ 5 = 32 := rfl
  have e6 : (2 : Int) ^ 6 = 64 := rfl
  have e7 : (2 : Int) ^ 7 = 128 := rfl
  rw [e0, e1, e2, e3, e4, e5, e6, e7]
  omega

/-- What waits are the next bits. -/
structure W.At (b : List Int) (w : W) (P : Nat) : Prop where
  a : 8 * w.k = P + w.wai
  b : w.win = bsum b P w.wai

theorem W.At.step {b : List Int} (hb : Bytes b) {w : W} {P : Nat} (h : w.At b P) : (w.step b).At b P := by
  refine ⟨by have := h.a; simp only [W.step]; omega, ?_⟩
  simp only [W.step]
  rw [bsum_split, h.b, show P + w.wai = 8 * w.k by have := h.a; omega, bsum_byte hb, Int.mul_comm]

theorem W.At.fill {b : List Int} (hb : Bytes b) {P n : Nat} : ∀ (f : Nat) (w : W), w.At b P → (W.fill b n f w).At b P
  | 0, w, h => h
  | f + 1, w, h => by
    simp only [W.fill]
    split
    · exact W.At.fill hb f _ (h.step hb)
    · exact h

theorem W.At.next {b : List Int} (hb : Bytes b) {w : W} {P n : Nat} (h : w.At b P) (hn : n ≤ 24) : w.val b n = bsum b P n ∧ (w.next b n).At b (P + n) := by
  have hf := W.At.fill (n := n) hb 4 w h
  have h4 := W.fill_n (b := b) (n := n) 4 w (by omega)
  obtain ⟨r0, r1⟩ := bsum_range b P n
  have hp := p2pos n
  have e : (W.fill b n 4 w).win = bsum b P n + 2 ^ n * bsum b (P + n) ((W.fill b n 4 w).wai - n) := by
    rw [hf.b, ← bsum_split]
    congr 1
    omega
  refine ⟨?_, ⟨?_, ?_⟩⟩
  · unfold W.val W.at
    rw [e, Int.add_mul_emod_self_left, Int.emod_eq_of_lt r0 r1]
  · have := hf.a
    simp only [W.next, W.at]
    omega
  · simp only [W.next, W.at]
    rw [e, Int.add_mul_ediv_left _ _ (by omega), Int.ediv_eq_zero_of_lt r0 r1, Int.zero_add]

end Go.Pl
/-
  Plain words of chapter 3, those that hang on no law (taken out of the texts of L3 by split.py).
  Conditions: none.
-/
namespace Go.Pl
open Go.Eng Go.Proofs
/-- Bits that are read as they are; of how many the rest is chosen. -/
def ub (ft : Int) : Nat := (bl (ft - 1) - 8).toNat
def uf (ft : Int) : Int := (ft - 1) / 2 ^ ub ft + 1

theorem ub_range {ft : Int} (h0 : 256 < ft) (h1 : ft ≤ 4294967295) : 1 ≤ ub ft ∧ ub ft ≤ 24 ∧ bl (ft - 1) = ub ft + 8 ∧ 1 ≤ uf ft ∧ uf ft ≤ 256 := by
  have a1 := bl_le (n := 32) (x := ft - 1) (by show ft - 1 < 4294967296; omega)
  have a2 := bl_mono (x := 256) (y := ft - 1) (by omega)
  have e : bl 256 = 9 := by decide +kernel
  obtain ⟨k, k1, k2, k3⟩ := bl_spec (x := ft - 1) (by omega)
  have hub : ub ft = k - 7 := by unfold ub; omega
  have hp := p2pos (ub ft)
  refine ⟨by unfold ub; omega, by unfold ub; omega, by unfold ub; omega, ?_, ?_⟩
  · unfold uf
    have : 0 ≤ (ft - 1) / 2 ^ ub ft := Int.ediv_nonneg (by omega) (by omega)
    omega
  · unfold uf
    have : (ft - 1) / 2 ^ ub ft < 256 := by
      rw [Int.ediv_lt_iff_lt_mul hp, show (256 : Int) = 2 ^ 8 from rfl, ← Int.pow_add, hub, show 8 + (k - 7) = k + 1 by omega]
      exact k3
    omega

theorem ch_takes {q : Q} (h : q.Ok) {ft : Int} (f0 : 1 ≤ ft) (f1 : ft ≤ 65536) : Takes q (q.ch ft) (q.ch ft + 1) ft := by
  obtain ⟨c0, c1⟩ := Q.ch_range h f0 f1
  exact ⟨f0, f1, c0, Int.le_refl _, by omega, by omega⟩

/-- The register behind it; the number. -/
def Q.un (b : List Int) (q : Q) (ft : Int) : Q := if ft ≤ 256 then q.tk b (q.ch ft) (q.ch ft + 1) ft else q.tk b (q.ch (uf ft)) (q.ch (uf ft) + 1) (uf ft)
def uv (b : List Int) (q : Q) (w : W) (ft : Int) : Int := q.ch (uf ft) * 2 ^ ub ft + w.val b (ub ft)

theorem Q.un_ok {b : List Int} (hb : Bytes b) {q : Q} (h : q.Ok) {ft : Int} (h0 : 1 < ft) (h1 : ft ≤ 4294967295) : (q.un b ft).Ok := by
  unfold Q.un
  split
  · exact Q.tk_ok hb h (ch_takes h (by omega) (by omega))
  · obtain ⟨_, _, _, u0, u1⟩ := ub_range (ft := ft) (by omega) h1
    exact Q.tk_ok hb h (ch_takes h u0 (by omega))
theorem Q.un_m (b : List Int) (q : Q) (ft : Int) : q.m ≤ (q.un b ft).m ∧ (q.un b ft).m ≤ q.m + 4 := by
  unfold Q.un
  split <;> exact Q.tk_m b q _ _ _

theorem uv_range {b : List Int} {q : Q} (h : q.Ok) (w : W) {ft : Int} (h0 : 256 < ft) (h1 : ft ≤ 4294967295) : 0 ≤ uv b q w ft ∧ uv b q w ft < 4294967296 ∧ 0 ≤ q.ch (uf ft) * 2 ^ ub ft ∧ q.ch (uf ft) * 2 ^ ub ft < 4294967296 := by
  obtain ⟨b0, b1, _, u0, u1⟩ := ub_range h0 h1
  obtain ⟨c0, c1⟩ := Q.ch_range h u0 (by omega)
  obtain ⟨v0, v1⟩ := W.val_range (b := b) w (ub ft)
  have hp := p2pos (ub ft)
  have hp2 : (2 : Int) ^ ub ft ≤ 16777216 := p2le (b := 24) b1
  have k1 : 0 ≤ q.ch (uf ft) * 2 ^ ub ft := Int.mul_nonneg c0 (by omega)
  have k2 : q.ch (uf ft) * 2 ^ ub ft ≤ 255 * 2 ^ ub ft := Int.mul_le_mul_of_nonneg_right (by omega) (by omega)
  unfold uv
  omega

section
variable {N : Nat} {count : Int} {bad : Bool} {b : List Int}
theorem uint_out {back window waiting rng val last front : Int} {ft : Int} (h : ft ≤ 1 ∨ ft > 4294967295) : Rc.uint.F N ft rng val last front back window waiting count bad b = some (0, rng, val, last, front, back, window, waiting, count, bad) := by
  unfold Rc.uint.F
  simp only [br_dec, chkL_same]
  by_cases h0 : ft ≤ 1
  · rw [if_pos h0]
  · rw [if_neg h0, if_pos (by omega)]

theorem uint_small {back window waiting : Int} (hb : Bytes b) (hl : b.length < 1099511627776) {q : Q} (h : q.Ok) {ft : Int} (h0 : 1 < ft) (h1 : ft ≤ 256) (hc0 : 0 ≤ count) (hc1 : count < 1099511627776) (hN : 300 ≤ N) :
    Rc.uint.F N ft q.rng q.val q.last (fr b q.m) back window waiting count bad b =
      some (q.ch ft, (q.un b ft).rng, (q.un b ft).val, (q.un b ft).last, fr b (q.un b ft).m, back, window, waiting, ct count q (q.un b ft), bad) := by
  unfold Rc.uint.F
  simp only [br_dec, chkL_same]
  obtain ⟨c0, c1⟩ := Q.ch_range h (ft := ft) (by omega) (by omega)
  rw [if_neg (by omega), if_neg (by omega), if_pos h1, u64 (x := ft) (by omega) (by omega), choose_F h (by omega) (by omega), obind_of, u64 (x := q.ch ft + 1) (by omega) (by omega), take_F hb hl h (ch_takes h (by omega) (by omega)) hc0 hc1 (by omega), obind_of, i64 (x := q.ch ft) (by omega) (by omega)]
  simp only [Q.un, if_pos h1]

theorem uint_great (hb : Bytes b) (hl : b.length < 1099511627776) {q : Q} (h : q.Ok) {w : W} (hw : w.Ok) {ft : Int} (h0 : 256 < ft) (h1 : ft ≤ 4294967295) (hc0 : 0 ≤ count) (hc1 : count < 1099511620000) (hN : 300 ≤ N) :
    Rc.uint.F N ft q.rng q.val q.last (fr b q.m) (fr b w.k) w.win (w.wai : Int) count bad b =
      some (if uv b q w ft ≥ ft then ft - 1 else uv b q w ft, (q.un b ft).rng, (q.un b ft).val, (q.un b ft).last, fr b (q.un b ft).m, fr b (w.next b (ub ft)).k, (w.next b (ub ft)).win, ((w.next b (ub ft)).wai : Int),
        ct count q (q.un b ft) + ub ft, bad || decide (uv b q w ft ≥ ft)) := by
  unfold Rc.uint.F
  simp only [br_dec, chkL_same]
  obtain ⟨b0, b1, b2, u0, u1⟩ := ub_range h0 h1
  obtain ⟨c0, c1⟩ := Q.ch_range h u0 (by omega)
  obtain ⟨v0, v1, v2, v3⟩ := uv_range (b := b) h w h0 h1
  have eun : q.un b ft = q.tk b (q.ch (uf ft)) (q.ch (uf ft) + 1) (uf ft) := by unfold Q.un; rw [if_neg (by omega)]
  have hm := Q.un_m b q ft
  have hcr := ct_range (b := b) hm count
  rw [if_neg (by omega), if_neg (by omega), if_neg (by omega), i64 (x := ft - 1) (by omega) (by omega), u64 (x := ft - 1) (by omega) (by omega), blen_F (by omega) (by omega), obind_of, b2, i64 (x := (ub ft : Int) + 8 - 8) (by omega) (by omega),
    show (ub ft : Int) + 8 - 8 = ub ft by omega, chk_pos (by omega), Int.toNat_natCast, bits_i64, show min (ub ft) 64 = ub ft by omega, fdiv_ediv (by have := p2pos (ub ft); omega)]
  have euf : (ft - 1) / 2 ^ ub ft + 1 = uf ft := rfl
  rw [euf, i64 (x := uf ft) (by omega) (by omega), u64 (x := uf ft) (by omega) (by omega), choose_F h u0 (by omega), obind_of, u64 (x := q.ch (uf ft) + 1) (by omega) (by omega), take_F hb hl h (ch_takes h u0 (by omega)) hc0 (by omega) (by omega), obind_of, ← eun]
  simp only
  rw [chk_pos (by omega), bits_F hb hl hw (ub ft) (by omega) (by omega) hN, if_pos (by omega), obind_of]
  simp only [Int.toNat_natCast]
  rw [i64 (x := q.ch (uf ft)) (by omega) (by omega), i64 (x := q.ch (uf ft) * 2 ^ ub ft) (by omega) (by omega), show q.ch (uf ft) * 2 ^ ub ft + w.val b (ub ft) = uv b q w ft from rfl, i64 (x := uv b q w ft) (by omega) (by omega)]
  by_cases hv : uv b q w ft ≥ ft
  · rw [if_pos hv, if_pos hv]
    simp [hv]
  · rw [if_neg hv, if_neg hv]
    simp [hv]
end
end Go.Pl
/-
  Chapter 3 in plain words: numbers that are small as a rule (rc's); the reference's flags, bits, numbers.
  Conditions: none.
-/
namespace Go.Pl
open Go.Eng Go.Proofs

/-! ### Laplace -/
structure Lp where
  l : Int
  v : Int
  s : Int

def Lp.step (decay : Int) (p : Lp) : Lp := ⟨p.l + 2 * p.s, p.v + 1, (2 * p.s - 2) * decay / 32768 + 1⟩
def Lp.run (decay f : Int) : Nat → Lp → Lp
  | 0, p => p
  | n + 1, p => if 1 < p.s ∧ p.l + 2 * p.s ≤ f then Lp.run decay f n (p.step decay) else p

structure Lp.Ok (f : Int) (p : Lp) : Prop where
  l0 : 0 ≤ p.l
  l1 : p.l ≤ f
  s0 : 1 ≤ p.s
  s1 : p.s ≤ 20000
  v0 : 0 ≤ p.v
  v1 : p.v ≤ p.l + 1

theorem Lp.Ok.step {decay f : Int} (d0 : 0 ≤ decay) (d1 : decay ≤ 16000) {p : Lp} (h : p.Ok f) (hs : 1 < p.s) (hf : p.l + 2 * p.s ≤ f) : (p.step decay).Ok f ∧ 0 ≤ (2 * p.s - 2) * decay ∧ (2 * p.s - 2) * decay ≤ (2 * p.s - 2) * 16000 := by
  obtain ⟨h1, h2, h3, h4, h5, h6⟩ := h
  have k1 : 0 ≤ (2 * p.s - 2) * decay := Int.mul_nonneg (by omega) d0
  have k2 : (2 * p.s - 2) * decay ≤ (2 * p.s - 2) * 16000 := Int.mul_le_mul_of_nonneg_left d1 (by omega)
  refine ⟨⟨by simp only [Lp.step]; omega, by simp only [Lp.step]; omega, by simp only [Lp.step]; omega, by simp only [Lp.step]; omega, by simp only [Lp.step]; omega, by simp only [Lp.step]; omega⟩, k1, k2⟩

/-- At first: one, behind nought. -/
def Lp.start (fs decay : Int) : Lp := ⟨fs, 1, (32736 - fs) * (16384 - decay) / 32768 + 1⟩
def lapEnd (f : Int) (p : Lp) : Lp :=
  let p2 : Lp := if p.s ≤ 1 then ⟨p.l + 2 * ((f - p.l) / 2), p.v + (f - p.l) / 2, p.s⟩ else p
  if f < p2.l + p2.s then ⟨p2.l, -p2.v, p2.s⟩ else ⟨p2.l + p2.s, p2.v, p2.s⟩
/-- Where f lies: from l on, s wide; v. -/
def lapAt (f fs decay : Int) : Lp := if f ≥ fs then lapEnd f (Lp.run decay f 8192 (Lp.start fs decay)) else ⟨0, 0, fs⟩

end Go.Pl
/-
  Chapter 3 in plain words: Laplace's numbers in the code, and the reference's flags, bits, numbers.
  Conditions: none.
-/
namespace Go.Pl
open Go.Eng Go.Proofs

def lapH (p : Lp) : Int := min (p.l + p.s) 32768
section
variable {N : Nat} {back window waiting count : Int} {bad : Bool} {b : List Int}

end

section
variable {N : Nat} {back wait waiting count eq : Int} {bad : Bool} {b : List Int}

theorem rbits_loop {rng val last front : Int} (hb : Bytes b) (hl : b.length < 1099511627776) {n : Nat} (hn : n ≤ 24) : ∀ (nn f : Nat) (w : W), w.Ok → n ≤ w.wai + 8 * f → f < nn →
    Rc.rbits.loop3 N nn (n : Int) rng val last front count eq bad b (fr b w.k) w.win (w.wai : Int) = some (fr b (W.fill b n f w).k, (W.fill b n f w).win, ((W.fill b n f w).wai : Int))
  | 0, f, w, _, _, h => by omega
  | nn + 1, f, w, h, hf, h0 => by
    unfold Rc.rbits.loop3
    simp only [br_dec, chkI_same, chkB_same, chkL_same]
    by_cases hw : w.wai < n
    · rw [if_pos (by omega)]
      obtain ⟨x0, x1⟩ := eb_range hb w.k
      cases f with
      | zero => omega
      | succ f =>
        have hc := h.c
        have ih := rbits_loop (rng := rng) (val := val) (last := last) (front := front) hb hl hn nn f (w.step b) (h.step hb (by omega)) (by simp only [W.step]; omega) (by omega)
        simp only [W.fill, if_pos hw]
        by_cases hin : w.k < b.length
        · have ef : fr b w.k = (w.k : Int) := by unfold fr; omega
          have ef2 : fr b (w.k + 1) = (w.k : Int) + 1 := by unfold fr; omega
          have ex : b.getD (b.length - 1 - w.k) 0 = eb b w.k := by unfold eb; rw [if_pos hin]
          rw [ef, if_pos (by omega), i64 (x := (w.k : Int) + 1) (by omega) (by omega), i64 (x := (b.length : Int) - _) (by omega) (by omega), chk_pos (by omega), u64 (x := (w.wai : Int)) (by omega) (by omega), chk_pos (by omega),
            show ((b.length : Int) - ((w.k : Int) + 1)).toNat = b.length - 1 - w.k by omega, ex, u64 (x := eb b w.k) (by omega) (by omega), Int.toNat_natCast, or_win h.a h.b (by omega) x0 x1, i64 (x := (w.wai : Int) + 8) (by omega) (by omega)]
          simp only [W.step] at ih ⊢
          rw [ef2] at ih
          exact ih
        · have ef : fr b w.k = (b.length : Int) := by unfold fr; omega
          have ef2 : fr b (w.k + 1) = (b.length : Int) := by unfold fr; omega
          have ex : eb b w.k = 0 := by unfold eb; rw [if_neg hin]
          rw [ef, if_neg (by omega), u64 (x := (w.wai : Int)) (by omega) (by omega), chk_pos (by omega), Int.toNat_natCast, or_win h.a h.b (by omega) (by omega) (by omega), i64 (x := (w.wai : Int) + 8) (by omega) (by omega)]
          simp only [W.step] at ih ⊢
          rw [ef2, ex] at ih
          rw [ex]
          exact ih
    · rw [if_neg (by omega)]
      have : W.fill b n f w = w := by cases f with
        | zero => rfl
        | succ f => simp only [W.fill, if_neg hw]
      rw [this]

theorem rbits_F {rng val last front : Int} (hb : Bytes b) (hl : b.length < 1099511627776) {w : W} (h : w.Ok) (n : Int) (hc0 : 0 ≤ count) (hc1 : count < 1099511627776) (hN : 300 ≤ N) :
    Rc.rbits.F N n rng val last front (fr b w.k) w.win (w.wai : Int) count eq bad b =
      some (if 0 ≤ n ∧ n ≤ 24 then (w.val b n.toNat, fr b (w.next b n.toNat).k, (w.next b n.toNat).win, ((w.next b n.toNat).wai : Int), count + n) else (0, fr b w.k, w.win, (w.wai : Int), count)) := by
  unfold Rc.rbits.F
  simp only [br_dec, chkI_same, chkB_same, chkL_same]
  by_cases n0 : n < 0
  · rw [if_pos n0, if_neg (by omega)]
  rw [if_neg n0]
  by_cases n1 : n > 24
  · rw [if_pos n1, if_neg (by omega)]
  rw [if_neg n1, if_pos (show 0 ≤ n ∧ n ≤ 24 by omega)]
  obtain ⟨k, rfl⟩ : ∃ k : Nat, n = k := ⟨n.toNat, by omega⟩
  have hk : k ≤ 24 := by omega
  rw [rbits_loop hb hl hk N 4 w h (by omega) (by omega), obind_of]
  obtain ⟨h1, h2, h3⟩ := W.fill_ok hb hk 4 w h
  have h4 := W.fill_n (b := b) (n := k) 4 w (by omega)
  have h5 : (2 : Int) ^ (W.fill b k 4 w).wai ≤ 2147483648 := p2le (b := 31) h3
  rw [u64 (x := (k : Int)) (by omega) (by omega), chk_pos (by omega), chk_pos (by omega)]
  simp only [Int.toNat_natCast]
  rw [mask_val h1 (by omega) hk, i64 (x := count + k) (by omega) (by omega), i64 (by omega) (by omega), bits_u64, show min k 64 = k by omega, fdiv_ediv (by have := p2pos k; omega)]
  simp only [W.val, W.next, W.at]
  congr 5
  omega

theorem ruint_out {rng val last front : Int} {ft : Int} (h : ft ≤ 1 ∨ ft > 4294967295) : Rc.ruint.F N ft rng val last front back wait waiting count eq bad b = some (0, rng, val, last, front, back, wait, waiting, count, eq, bad) := by
  unfold Rc.ruint.F
  simp only [br_dec, chkL_same, br_beq]
  by_cases h0 : ft < 1
  · rw [if_pos h0]
  rw [if_neg h0]
  by_cases h1 : ft > 4294967295
  · rw [if_pos h1]
  rw [if_neg h1, if_pos (by omega)]

theorem ruint_small (hb : Bytes b) (hl : b.length < 1099511627776) {q : Q} (h : q.Ok) {ft : Int} (h0 : 1 < ft) (h1 : ft ≤ 256) (hc0 : 0 ≤ count) (hc1 : count < 1099511627776) (hN : 300 ≤ N) :
    ∃ eq', Rc.ruint.F N ft q.rng q.val q.last (fr b q.m) back wait waiting count eq bad b =
      some (q.ch ft, (q.un b ft).rng, (q.un b ft).val, (q.un b ft).last, fr b (q.un b ft).m, back, wait, waiting, ct count q (q.un b ft), eq', bad) := by
  refine ⟨q.rng / ft, ?_⟩
  unfold Rc.ruint.F
  simp only [br_dec, chkL_same, br_beq]
  obtain ⟨c0, c1⟩ := Q.ch_range h (ft := ft) (by omega) (by omega)
  rw [if_neg (by omega), if_neg (by omega), if_neg (by omega), if_pos h1, u64 (x := ft) (by omega) (by omega), rchoose_F h (by omega) (by omega), obind_of]
  simp only
  rw [u64 (x := q.ch ft + 1) (by omega) (by omega), rtake_F hb hl h (ch_takes h (by omega) (by omega)) hc0 hc1 (by omega), obind_of, i64 (x := q.ch ft) (by omega) (by omega)]
  simp only [Q.un, if_pos h1]

theorem ruint_great (hb : Bytes b) (hl : b.length < 1099511627776) {q : Q} (h : q.Ok) {w : W} (hw : w.Ok) {ft : Int} (h0 : 256 < ft) (h1 : ft ≤ 4294967295) (hc0 : 0 ≤ count) (hc1 : count < 1099511620000) (hN : 300 ≤ N) :
    ∃ eq', Rc.ruint.F N ft q.rng q.val q.last (fr b q.m) (fr b w.k) w.win (w.wai : Int) count eq bad b =
      some (if uv b q w ft ≥ ft then ft - 1 else uv b q w ft, (q.un b ft).rng, (q.un b ft).val, (q.un b ft).last, fr b (q.un b ft).m, fr b (w.next b (ub ft)).k, (w.next b (ub ft)).win, ((w.next b (ub ft)).wai : Int),
        ct count q (q.un b ft) + ub ft, eq', bad || decide (uv b q w ft ≥ ft)) := by
  refine ⟨q.rng / uf ft, ?_⟩
  unfold Rc.ruint.F
  simp only [br_dec, chkL_same, br_beq]
  obtain ⟨b0, b1, b2, u0, u1⟩ := ub_range h0 h1
  obtain ⟨c0, c1⟩ := Q.ch_range h u0 (by omega)
  obtain ⟨v0, v1, v2, v3⟩ := uv_range (b := b) h w h0 h1
  obtain ⟨wv0, wv1⟩ := W.val_range (b := b) w (ub ft)
  have eun : q.un b ft = q.tk b (q.ch (uf ft)) (q.ch (uf ft) + 1) (uf ft) := by unfold Q.un; rw [if_neg (by omega)]
  have hm := Q.un_m b q ft
  have hcr := ct_range (b := b) hm count
  rw [if_neg (by omega), if_neg (by omega), if_neg (by omega), if_neg (by omega), i64 (x := ft - 1) (by omega) (by omega), rlen_F (by omega) hN, obind_of, b2, i64 (x := (ub ft : Int) + 8 - 8) (by omega) (by omega),
    show (ub ft : Int) + 8 - 8 = ub ft by omega, u64 (x := (ub ft : Int)) (by omega) (by omega), chk_pos (by omega), Int.toNat_natCast, bits_i64, show min (ub ft) 64 = ub ft by omega, fdiv_ediv (by have := p2pos (ub ft); omega)]
  have euf : (ft - 1) / 2 ^ ub ft + 1 = uf ft := rfl
  rw [euf, i64 (x := uf ft) (by omega) (by omega), u64 (x := uf ft) (by omega) (by omega), rchoose_F h u0 (by omega), obind_of]
  simp only
  rw [u64 (x := q.ch (uf ft) + 1) (by omega) (by omega), rtake_F hb hl h (ch_takes h u0 (by omega)) hc0 (by omega) (by omega), obind_of, ← eun]
  simp only
  rw [chk_pos (by omega), rbits_F hb hl hw (ub ft) (by omega) (by omega) hN, if_pos (by omega), obind_of]
  simp only [Int.toNat_natCast]
  rw [i64 (x := q.ch (uf ft)) (by omega) (by omega), i64 (x := q.ch (uf ft) * 2 ^ ub ft) (by omega) (by omega), or_add c0 (by show q.ch (uf ft) * 2 ^ ub ft < 18446744073709551616; omega) wv0 wv1 (by omega),
    show q.ch (uf ft) * 2 ^ ub ft + w.val b (ub ft) = uv b q w ft from rfl, i64 (x := uv b q w ft) (by omega) (by omega)]
  by_cases hv : uv b q w ft ≥ ft
  · rw [if_pos hv, if_pos hv]
    simp [hv]
  · rw [if_neg hv, if_neg hv]
    simp [hv]
end
end Go.Pl
/-
  Chapter 4 in plain words: bytes of numbers, the range encoder's register as whole numbers, what is written is read.
  Conditions: none.
-/
namespace Go.Pl
open Go.Eng

/-! ### Bytes of numbers -/
/-- k bytes of a number, the highest first. -/
def tb : Nat → Int → List Int
  | 0, _ => []
  | k + 1, n => tb k (n / 256) ++ [n % 256]

/-- The first m bytes as a number; behind the end all is nought. -/
def cp (b : List Int) : Nat → Int
  | 0 => 0
  | m + 1 => cp b m * 256 + nb b m

/-- k bytes of a number, the lowest first. -/
def le : Nat → Int → List Int
  | 0, _ => []
  | k + 1, n => n % 256 :: le k (n / 256)

/-! ### The register -/
/-- How many bytes are told; the lower end; the range; how many bits for the end; these, the first one lowest. -/
structure E where
  k : Nat
  low : Int
  rng : Int
  r : Nat
  raw : Int

def E.told (e : E) : List Int := tb e.k (e.low / 2147483648)
def E.val (e : E) : Int := e.low % 2147483648
def E.bits (e : E) : List Int := le ((e.r + 7) / 8) e.raw
def E.count (e : E) : Int := 33 + 8 * (e.k : Int) + (e.r : Int)
def E.tell (e : E) : Int := e.count - bl e.rng

/-- While it goes on; between calls the range is great. -/
structure E.Pre (e : E) : Prop where
  r0 : 1 ≤ e.rng
  r1 : e.rng ≤ 2147483648
  l0 : 0 ≤ e.low
  l1 : e.low + e.rng ≤ 2147483648 * 256 ^ e.k
  w0 : 0 ≤ e.raw
  w1 : e.raw < 2 ^ e.r
structure E.Ok (e : E) : Prop extends E.Pre e where
  g : 8388608 < e.rng

def E.step (e : E) : E := ⟨e.k + 1, e.low * 256, e.rng * 256, e.r, e.raw⟩
def E.norm : Nat → E → E
  | 0, e => e
  | n + 1, e => if e.rng ≤ 8388608 then E.norm n e.step else e
def E.on (e : E) : E := E.norm 4 e

theorem E.Pre.step {e : E} (h : e.Pre) (hr : e.rng ≤ 8388608) : e.step.Pre := by
  obtain ⟨h1, h2, h3, h4, h5, h6⟩ := h
  refine ⟨by simp only [E.step]; omega, by simp only [E.step]; omega, by simp only [E.step]; omega, ?_, h5, h6⟩
  simp only [E.step, Int.pow_succ]
  omega

theorem E.norm_ok : ∀ (n : Nat) (e : E), e.Pre → 8388608 < e.rng * 256 ^ n → (E.norm n e).Ok
  | 0, e, h, hn => ⟨h, by simpa [E.norm] using hn⟩
  | n + 1, e, h, hn => by
    simp only [E.norm]
    split
    · rename_i hr
      refine E.norm_ok n _ (h.step hr) ?_
      simp only [E.step]
      rw [Int.pow_succ] at hn
      rw [Int.mul_assoc, Int.mul_comm 256]
      exact hn
    · exact ⟨h, by omega⟩
theorem E.on_ok {e : E} (h : e.Pre) : e.on.Ok := E.norm_ok 4 e h (by have := h.r0; omega)

theorem E.norm_stop {e : E} (h : 8388608 < e.rng) : ∀ n, E.norm n e = e
  | 0 => rfl
  | n + 1 => by simp only [E.norm]; rw [if_neg (by omega)]

theorem E.norm_same : ∀ (n : Nat) (e : E), (E.norm n e).r = e.r ∧ (E.norm n e).raw = e.raw ∧ e.k ≤ (E.norm n e).k ∧ (E.norm n e).k ≤ e.k + n
  | 0, e => by simp [E.norm]
  | n + 1, e => by
    simp only [E.norm]
    split
    · have := E.norm_same n e.step
      simp only [E.step] at this ⊢
      omega
    · simp

/-! ### What is written -/
def E.tk0 (e : E) (fl fh ft : Int) : E :=
  if 0 < fl then ⟨e.k, e.low + (e.rng - e.rng / ft * (ft - fl)), e.rng / ft * (fh - fl), e.r, e.raw⟩
  else ⟨e.k, e.low, e.rng - e.rng / ft * (ft - fh), e.r, e.raw⟩
def E.tk (e : E) (fl fh ft : Int) : E := (e.tk0 fl fh ft).on
def E.f0 (e : E) (v : Bool) (n : Nat) : E :=
  if v then ⟨e.k, e.low + (e.rng - e.rng / 2 ^ n), e.rng / 2 ^ n, e.r, e.raw⟩ else ⟨e.k, e.low, e.rng - e.rng / 2 ^ n, e.r, e.raw⟩
def E.fl (e : E) (v : Bool) (n : Nat) : E := (e.f0 v n).on
def E.bt (e : E) (v : Int) (n : Nat) : E := ⟨e.k, e.low, e.rng, e.r + n, e.raw + v * 2 ^ e.r⟩

/-- A place that may be written. -/
structure Place (fl fh ft : Int) : Prop where
  t0 : 1 ≤ ft
  t1 : ft ≤ 65536
  a : 0 ≤ fl
  b : fl < fh
  c : fh ≤ ft

theorem E.tk0_facts {e : E} (h : e.Ok) {fl fh ft : Int} (p : Place fl fh ft) :
    1 ≤ e.rng / ft ∧ e.rng / ft * ft ≤ e.rng ∧ 0 ≤ e.rng / ft * (ft - fh) ∧ e.rng / ft * (ft - fh) + e.rng / ft * (fh - fl) = e.rng / ft * (ft - fl) ∧ e.rng / ft * (ft - fl) + e.rng / ft * fl = e.rng / ft * ft ∧ 1 ≤ e.rng / ft * (fh - fl) ∧ 0 ≤ e.rng / ft * fl := by
  obtain ⟨t0, t1, a, b, c⟩ := p
  obtain ⟨e0, e1, e2⟩ := e_facts h.g t0 t1
  generalize e.rng / ft = s at *
  refine ⟨e0, e1, Int.mul_nonneg (by omega) (by omega), ?_, ?_, ?_, Int.mul_nonneg (by omega) (by omega)⟩
  · rw [← Int.mul_add]; congr 1; omega
  · rw [← Int.mul_add]; congr 1; omega
  · have : 1 * 1 ≤ s * (fh - fl) := Int.mul_le_mul e0 (by omega) (by omega) (by omega)
    omega

theorem E.tk0_pre {e : E} (h : e.Ok) {fl fh ft : Int} (p : Place fl fh ft) : (e.tk0 fl fh ft).Pre := by
  obtain ⟨k1, k2, k3, k4, k5, k6, k7⟩ := E.tk0_facts h p
  obtain ⟨⟨h1, h2, h3, h4, h5, h6⟩, h7⟩ := h
  unfold E.tk0
  split
  · exact ⟨by simp only; omega, by simp only; omega, by simp only; omega, by simp only; omega, h5, h6⟩
  · have : fl = 0 := by have := p.a; omega
    subst this
    simp only [Int.sub_zero] at *
    exact ⟨by simp only; omega, by simp only; omega, by simp only; omega, by simp only; omega, h5, h6⟩
theorem E.tk_ok {e : E} (h : e.Ok) {fl fh ft : Int} (p : Place fl fh ft) : (e.tk fl fh ft).Ok := E.on_ok (E.tk0_pre h p)

theorem E.bt_ok {e : E} (h : e.Ok) {v : Int} {n : Nat} (v0 : 0 ≤ v) (v1 : v < 2 ^ n) : (e.bt v n).Ok := by
  obtain ⟨⟨h1, h2, h3, h4, h5, h6⟩, h7⟩ := h
  have hp := p2pos e.r
  refine ⟨⟨h1, h2, h3, h4, ?_, ?_⟩, h7⟩
  · have := Int.mul_nonneg v0 (show 0 ≤ (2 : Int) ^ e.r by omega)
    simp only [E.bt]; omega
  · simp only [E.bt]
    rw [Int.pow_add]
    have : v * 2 ^ e.r ≤ (2 ^ n - 1) * 2 ^ e.r := Int.mul_le_mul_of_nonneg_right (by omega) (by omega)
    rw [Int.sub_mul, Int.one_mul, Int.mul_comm (2 ^ n)] at this
    omega

/-! ### What is written is read -/
/-- Does the code lie where it may? -/
def E.In (b : List Int) (e : E) : Prop := e.low ≤ cp b (e.k + 4) / 2 ∧ cp b (e.k + 4) / 2 < e.low + e.rng
/-- The reader's register then. -/
def E.rd (b : List Int) (e : E) : Q := ⟨e.rng, e.low + e.rng - 1 - cp b (e.k + 4) / 2, nb b (e.k + 3), e.k + 4⟩

end Go.Pl
/-
  Chapter 4 in plain words: the bytes that are told at the end hold the code and the bits for the end.
  Conditions: none.
-/
namespace Go.Pl
open Go.Eng

/-! ### Bits from the end -/
/-! ### The code and the bits fit -/
structure E.Fit (b : List Int) (e : E) : Prop where
  i : e.In b
  s : bsum b 0 e.r = e.raw

theorem E.tk0_same (e : E) (fl fh ft : Int) : (e.tk0 fl fh ft).r = e.r ∧ (e.tk0 fl fh ft).raw = e.raw ∧ (e.tk0 fl fh ft).k = e.k := by unfold E.tk0; split <;> simp
theorem E.on_same (e : E) : e.on.r = e.r ∧ e.on.raw = e.raw ∧ e.k ≤ e.on.k ∧ e.on.k ≤ e.k + 4 := E.norm_same 4 e
theorem E.tk_same (e : E) (fl fh ft : Int) : (e.tk fl fh ft).r = e.r ∧ (e.tk fl fh ft).raw = e.raw ∧ e.k ≤ (e.tk fl fh ft).k ∧ (e.tk fl fh ft).k ≤ e.k + 4 := by
  have h1 := E.on_same (e.tk0 fl fh ft)
  have h2 := E.tk0_same e fl fh ft
  unfold E.tk
  rw [h2.1, h2.2.1, h2.2.2] at h1
  exact h1
/-! ### The end -/
/-- The code's lower end, of n bytes, rounded up. -/
def E.top (e : E) (n : Nat) : Int :=
  if e.k + 4 ≤ n then 2 * e.low * 256 ^ (n - (e.k + 4)) else 2 * e.low / 256 ^ (e.k + 4 - n) + (if 2 * e.low % 256 ^ (e.k + 4 - n) = 0 then 0 else 1)
/-- The bits for the end laid in. -/
def E.mid (e : E) (n : Nat) : Int := e.top n - e.top n % 2 ^ e.r + e.raw
def E.out (e : E) (n : Nat) : Int := if e.mid n < e.top n then e.mid n + 2 ^ e.r else e.mid n

end Go.Pl
/-
  Chapter 4 in plain words: what renc's functions come to (the register, symbols, flags, bits, numbers).
  Conditions: none.
-/
namespace Go.Pl
open Go.Eng Go.Proofs

section
variable {N : Nat}

theorem E.step_val (e : E) : e.step.val = e.val * 256 % 2147483648 := by
  simp only [E.val, E.step]
  omega

/-- Small enough. -/
structure E.Lim (N : Nat) (e : E) : Prop where
  k : e.k < 1099511627000
  r : e.r < 1099511627000
  N : e.k + 400 ≤ N

theorem E.val_range (e : E) : 0 ≤ e.val ∧ e.val < 2147483648 := by unfold E.val; omega
/-! ### Symbols -/
/-! ### Flags -/
/-! ### Bits -/
end
end Go.Pl
/-
  Chapter 4 in plain words: numbers below a bound, Tell, the end.
  Conditions: none.
-/
namespace Go.Pl
open Go.Eng Go.Proofs

/-! ### Numbers below a bound -/
def E.un (e : E) (v ft : Int) : E := if ft = 1 then e else if ft ≤ 256 then e.tk v (v + 1) ft else (e.tk (v / 2 ^ ub ft) (v / 2 ^ ub ft + 1) (uf ft)).bt (v % 2 ^ ub ft) (ub ft)

theorem un_place {v ft : Int} (v0 : 0 ≤ v) (v1 : v < ft) (h1 : ft ≤ 256) : Place v (v + 1) ft := ⟨by omega, by omega, v0, by omega, by omega⟩
theorem ug_place {v ft : Int} (v0 : 0 ≤ v) (v1 : v < ft) (h0 : 256 < ft) (h1 : ft ≤ 4294967295) : Place (v / 2 ^ ub ft) (v / 2 ^ ub ft + 1) (uf ft) ∧ 0 ≤ v / 2 ^ ub ft ∧ v / 2 ^ ub ft < 256 := by
  obtain ⟨b0, b1, b2, u0, u1⟩ := ub_range h0 h1
  have hp := p2pos (ub ft)
  have h2 : 0 ≤ v / 2 ^ ub ft := Int.ediv_nonneg v0 (by omega)
  have h3 : v / 2 ^ ub ft ≤ (ft - 1) / 2 ^ ub ft := Int.ediv_le_ediv hp (by omega)
  have h4 : uf ft = (ft - 1) / 2 ^ ub ft + 1 := rfl
  exact ⟨⟨u0, by omega, h2, by omega, by omega⟩, h2, by omega⟩

theorem E.un_ok {e : E} (h : e.Ok) {v ft : Int} (v0 : 0 ≤ v) (v1 : v < ft) (h1 : ft ≤ 4294967295) : (e.un v ft).Ok := by
  unfold E.un
  split
  · exact h
  · split
    · exact E.tk_ok h (un_place v0 v1 (by omega))
    · exact E.bt_ok (E.tk_ok h (ug_place v0 v1 (by omega) h1).1) (Int.emod_nonneg _ (by have := p2pos (ub ft); omega)) (Int.emod_lt_of_pos _ (p2pos _))

section
variable {N : Nat}

theorem E.Lim.tk {e : E} (hl : e.Lim (N + 4)) {fl fh ft : Int} (hk : e.k < 1099511626000) : (e.tk fl fh ft).Lim (N + 8) := by
  have := E.tk_same e fl fh ft
  obtain ⟨l1, l2, l3⟩ := hl
  exact ⟨by omega, by omega, by omega⟩

/-! ### Tell -/
theorem E.bl_range {e : E} (h : e.Ok) : 24 ≤ bl e.rng ∧ bl e.rng ≤ 32 := by
  refine ⟨?_, bl_le (n := 32) (by show e.rng < 4294967296; have := h.r1; omega)⟩
  have := bl_mono (x := 8388608) (y := e.rng) (by have := h.g; omega)
  have e : bl 8388608 = 24 := by decide +kernel
  omega
/-! ### To add a power of two -/
/-! ### Is one not nought? -/
/-! ### Which is less? -/
end
end Go.Pl
/-
  Chapter 4 in plain words: what Done tells.
  Conditions: none.
-/
namespace Go.Pl
open Go.Eng Go.Proofs

/-! ### Bits of bytes -/
section
variable {N : Nat}

end
end Go.Pl
/-
  Chapter 4 in plain words: numbers that are small as a rule.
  Conditions: none.
-/
namespace Go.Pl
open Go.Eng Go.Proofs

def Lp.it (decay : Int) : Nat → Lp → Lp
  | 0, p => p
  | n + 1, p => Lp.it decay n (p.step decay)

/-- Narrow steps, that grow no wider. -/
structure Lp.Sm (p : Lp) : Prop where
  s0 : 1 ≤ p.s
  s1 : p.s ≤ 20000

theorem Lp.Sm.step {decay : Int} (d0 : 0 ≤ decay) (d1 : decay ≤ 16000) {p : Lp} (h : p.Sm) : (p.step decay).Sm ∧ 0 ≤ (2 * p.s - 2) * decay ∧ (2 * p.s - 2) * decay ≤ (2 * p.s - 2) * 16000 := by
  obtain ⟨h3, h4⟩ := h
  have k1 : 0 ≤ (2 * p.s - 2) * decay := Int.mul_nonneg (by omega) d0
  have k2 : (2 * p.s - 2) * decay ≤ (2 * p.s - 2) * 16000 := Int.mul_le_mul_of_nonneg_left d1 (by omega)
  exact ⟨⟨by simp only [Lp.step]; omega, by simp only [Lp.step]; omega⟩, k1, k2⟩

theorem Lp.it_facts {decay : Int} (d0 : 0 ≤ decay) (d1 : decay ≤ 16000) : ∀ (n : Nat) (p : Lp), p.Sm → (Lp.it decay n p).Sm ∧ p.l + 2 * n ≤ (Lp.it decay n p).l ∧ (Lp.it decay n p).v = p.v + n
  | 0, p, h => ⟨h, by simp [Lp.it], by simp [Lp.it]⟩
  | n + 1, p, h => by
    obtain ⟨h1, h2, h3⟩ := Lp.it_facts d0 d1 n (p.step decay) (h.step d0 d1).1
    have := h.s0
    simp only [Lp.it]
    refine ⟨h1, ?_, ?_⟩
    · simp only [Lp.step] at h2; simp only [Lp.step]; omega
    · simp only [Lp.step] at h3; simp only [Lp.step]; omega

theorem Lp.it_one {decay : Int} : ∀ (n : Nat) (p : Lp), p.s = 1 → Lp.it decay n p = ⟨p.l + 2 * n, p.v + n, 1⟩
  | 0, p, h => by cases p; simp at h; subst h; simp [Lp.it]
  | n + 1, p, h => by
    have hs : p.step decay = ⟨p.l + 2, p.v + 1, 1⟩ := by simp [Lp.step, h]
    simp only [Lp.it]
    rw [hs, Lp.it_one n _ rfl, Lp.mk.injEq]
    exact ⟨by simp only; omega, by simp only; omega, rfl⟩

/-- The place, of one side, at the iterate. -/
def lapOf (f : Int) (p : Lp) : Lp := if f < p.l + p.s then ⟨p.l, -p.v, p.s⟩ else ⟨p.l + p.s, p.v, p.s⟩

theorem lap_it {decay f : Int} (d0 : 0 ≤ decay) (d1 : decay ≤ 16000) : ∀ (i n : Nat) (p : Lp), p.Sm → f < p.l + 4 * n → (Lp.it decay i p).l ≤ f → f < (Lp.it decay i p).l + 2 * (Lp.it decay i p).s →
    lapEnd f (Lp.run decay f n p) = lapOf f (Lp.it decay i p)
  | 0, n, p, h, hn, h1, h2 => by
    simp only [Lp.it] at h1 h2 ⊢
    have hr : Lp.run decay f n p = p := by
      cases n with
      | zero => rfl
      | succ n => simp only [Lp.run]; rw [if_neg (by omega)]
    rw [hr]
    unfold lapEnd lapOf
    have := h.s0
    by_cases hs : p.s ≤ 1
    · have e1 : (f - p.l) / 2 = 0 := by omega
      simp only [if_pos hs, e1]
      simp
    · simp only [if_neg hs]
  | i + 1, 0, p, h, hn, h1, h2 => by
    have := (Lp.it_facts d0 d1 (i + 1) p h).2.1
    omega
  | i + 1, n + 1, p, h, hn, h1, h2 => by
    obtain ⟨g1, g2, g3⟩ := Lp.it_facts d0 d1 i (p.step decay) (h.step d0 d1).1
    simp only [Lp.it] at h1 h2
    have hs0 := h.s0
    by_cases hs : 1 < p.s
    · have el : (p.step decay).l = p.l + 2 * p.s := rfl
      have : p.l + 2 * p.s ≤ f := by omega
      simp only [Lp.run]
      rw [if_pos ⟨hs, this⟩]
      exact lap_it d0 d1 i n _ (h.step d0 d1).1 (by rw [el]; omega) h1 h2
    · have h1s : p.s = 1 := by omega
      have hr : Lp.run decay f (n + 1) p = p := by simp only [Lp.run]; rw [if_neg (by omega)]
      have hi := Lp.it_one (decay := decay) (i + 1) p h1s
      simp only [Lp.it] at hi
      rw [hi] at h1 h2
      simp only [Lp.it]
      rw [hr, hi]
      simp only at h1 h2
      have e1 : (f - p.l) / 2 = ((i + 1 : Nat) : Int) := by omega
      unfold lapEnd lapOf
      simp only [e1, h1s, Int.le_refl, if_true]

/-! ### The writer's -/
/-- Where the writer stops: at the number wanted, or ahead of a place that lies outside. -/
def plR (decay up sg : Int) (i : Nat) (p : Lp) : Int × Int × Int :=
  (sg * (Lp.it decay i p).v, (Lp.it decay i p).l + up * (Lp.it decay i p).s, min ((Lp.it decay i p).l + up * (Lp.it decay i p).s + (Lp.it decay i p).s) 32768)
def plOut (decay up : Int) (i : Nat) (p : Lp) : Prop := (Lp.it decay i p).l + up * (Lp.it decay i p).s ≥ 32768

theorem start_sm {fs decay : Int} (h0 : 256 ≤ fs) (h1 : fs ≤ 28000) (d0 : 0 ≤ decay) (d1 : decay ≤ 16000) : (Lp.start fs decay).Sm ∧ (Lp.start fs decay).l + (Lp.start fs decay).s < 32768 ∧ 0 ≤ (32736 - fs) * (16384 - decay) ∧ (32736 - fs) * (16384 - decay) ≤ (32736 - fs) * 16384 := by
  have k1 : 0 ≤ (32736 - fs) * (16384 - decay) := Int.mul_nonneg (by omega) (by omega)
  have k2 : (32736 - fs) * (16384 - decay) ≤ (32736 - fs) * 16384 := Int.mul_le_mul_of_nonneg_left (by omega) (by omega)
  exact ⟨⟨by simp only [Lp.start]; omega, by simp only [Lp.start]; omega⟩, by simp only [Lp.start]; omega, k1, k2⟩

/-- What the writer finds. -/
structure Lap (fs decay v : Int) (r : Int × Int × Int) : Prop where
  z : v = 0 → r = (0, 0, fs)
  nz : v ≠ 0 → ∃ (up sg : Int) (i : Nat), (0 < v ∧ up = 1 ∧ sg = 1 ∨ v < 0 ∧ up = 0 ∧ sg = -1) ∧ i < 16300 ∧ (∀ j, j ≤ i → ¬ plOut decay up j (Lp.start fs decay)) ∧ 1 + (i : Int) ≤ sg * v ∧ (1 + (i : Int) = sg * v ∨ plOut decay up (i + 1) (Lp.start fs decay)) ∧ r = plR decay up sg i (Lp.start fs decay)

/-- The place is one; the reader finds it. -/
theorem Lap.place {fs decay v : Int} {r : Int × Int × Int} (h0 : 256 ≤ fs) (h1 : fs ≤ 28000) (d0 : 0 ≤ decay) (d1 : decay ≤ 16000) (h : Lap fs decay v r) :
    Place r.2.1 r.2.2 32768 ∧ (∀ f, r.2.1 ≤ f → f < r.2.2 → (lapAt f fs decay).l = r.2.1 ∧ lapH (lapAt f fs decay) = r.2.2 ∧ (lapAt f fs decay).v = r.1) ∧ (0 ≤ v → 0 ≤ r.1 ∧ r.1 ≤ v) ∧ (v ≤ 0 → r.1 ≤ 0 ∧ v ≤ r.1) := by
  obtain ⟨sm, sl, _, _⟩ := start_sm h0 h1 d0 d1
  by_cases hz : v = 0
  · rw [h.z hz]
    refine ⟨⟨by omega, by omega, by simp only; omega, by simp only; omega, by simp only; omega⟩, fun f f0 f1 => ?_, fun _ => by simp only; omega, fun _ => by simp only; omega⟩
    simp only at f0 f1
    unfold lapAt
    rw [if_neg (by omega)]
    refine ⟨rfl, ?_, rfl⟩
    unfold lapH
    simp only
    omega
  · obtain ⟨up, sg, i, hu, hi, i1, i2, i3, rfl⟩ := h.nz hz
    obtain ⟨g1, g2, g3⟩ := Lp.it_facts d0 d1 i (Lp.start fs decay) sm
    have hno := i1 i (Nat.le_refl _)
    unfold plOut at hno
    have hv : (Lp.start fs decay).v = 1 := rfl
    have hl : (Lp.start fs decay).l = fs := rfl
    obtain ⟨s0, s1⟩ := g1
    unfold plR
    have hus : 0 ≤ up * (Lp.it decay i (Lp.start fs decay)).s ∧ up * (Lp.it decay i (Lp.start fs decay)).s ≤ (Lp.it decay i (Lp.start fs decay)).s := by
      rcases hu with ⟨_, rfl, _⟩ | ⟨_, rfl, _⟩ <;> simp <;> omega
    refine ⟨⟨by omega, by omega, by simp only; omega, by simp only; omega, by simp only; omega⟩, fun f f0 f1 => ?_, fun hp => ?_, fun hp => ?_⟩
    · simp only at f0 f1 ⊢
      have hf : f < (Lp.it decay i (Lp.start fs decay)).l + 2 * (Lp.it decay i (Lp.start fs decay)).s := by omega
      unfold lapAt
      rw [if_pos (show f ≥ fs by omega), lap_it d0 d1 i 8192 (Lp.start fs decay) sm (by omega) (by omega) hf]
      unfold lapOf lapH
      rcases hu with ⟨_, rfl, rfl⟩ | ⟨_, rfl, rfl⟩
      · simp only [Int.one_mul] at f0 f1 ⊢
        rw [if_neg (by omega)]
        simp
      · simp only [Int.zero_mul, Int.add_zero] at f0 f1 ⊢
        rw [if_pos (by omega)]
        simp only [true_and]
        omega
    · rcases hu with ⟨_, rfl, rfl⟩ | ⟨hn, _⟩
      · simp only [Int.one_mul] at i2 ⊢; omega
      · omega
    · rcases hu with ⟨hn, _⟩ | ⟨_, rfl, rfl⟩
      · omega
      · simp only at i2 ⊢; omega
end Go.Pl
/-
  Chapter 4 in plain words: each writing, and what a reader finds of it.
  Conditions: none.
-/
namespace Go.Pl
open Go.Eng Go.Proofs

/-- Few enough writings. -/
structure E.Low (e : E) : Prop where
  k : e.k ≤ 10000
  r : e.r ≤ 100000
/-- At first. -/
def E.new : E := ⟨0, 0, 2147483648, 0, 0⟩
theorem E.new_ok : E.new.Ok := ⟨⟨by decide, by decide, by decide, by decide, by decide, by decide⟩, by decide⟩
theorem E.new_tell : E.new.tell = 1 := by decide +kernel
/-! ### Tell -/
/-! ### Laplace -/
section
variable {N : Nat}
end

/-! ### What a reader finds -/
section
variable {b : List Int} {e : E}
end
end Go.Pl
/-
  Layer 20's statements stand here in the place of layer 19's.
  Conditions: none.
-/
/-
  Layer 19, common parts: what is expected, the reading of energies by the program and by its plain twin.
  Conditions: none.
-/
namespace Go.Pl
open Go.Eng Go.Proofs

def cl (v : Int) : Int := if v < 0 then 0 else if v > 100 then 100 else v
theorem cl_range (v : Int) : 0 ≤ cl v ∧ cl v ≤ 100 := by
  unfold cl
  split
  · omega
  · split <;> omega
theorem eclamp_F {N : Nat} (v : Int) : Rc.eclamp.F N v = some (cl v) := by
  unfold Rc.eclamp.F cl
  congr 1
  split <;> split <;> first | rfl | omega | (exfalso; omega) | (split <;> first | rfl | (exfalso; omega))
/-! ### Reading -/
section
variable {N : Nat} {back window wait waiting eq : Int} {bad : Bool} {b : List Int}

/-! ### Lists of numbers that are one -/
/-! ### The two statements of reading -/
end
end Go.Pl
/-
  Layer 19: the sizes of the energies, and which number is nearest.
  Conditions: none.
-/
namespace Go.Pl
open Go.Eng Go.Proofs
set_option maxRecDepth 100000

def szT : List Int := [1, 1, 1, 2, 2, 2, 3, 3, 4, 5, 6, 7, 8, 10, 11, 13, 16, 19, 23, 27, 32, 38, 45, 54, 64, 76, 91, 108, 128, 152, 181, 215, 256, 304, 362, 431, 512, 609, 724, 861, 1024, 1218, 1448, 1722, 2048, 2435, 2896, 3444, 4096, 4871, 5793, 6889, 8192, 9742, 11585, 13777, 16384, 19484, 23170, 27554, 32768, 38968, 46341, 55109, 65536, 77936, 92682, 110218, 131072, 155872, 185364, 220436, 262144, 311744, 370728, 440872, 524288, 623487, 741455, 881744, 1048576, 1246974, 1482910, 1763488, 2097152, 2493948, 2965821, 3526975, 4194304, 4987896, 5931642, 7053950, 8388608, 9975792, 11863283, 14107901, 16777216, 19951585, 23726566, 28215802, 33554432]
def sz (i : Int) : Int := szT.getD i.toNat 0

theorem exp2_all (N : Nat) : (List.range 101).map (fun (i : Nat) => Rc.exp2.F (N + 1000) (64 * (i : Int))) = szT.map some := by kernel_rfl
theorem rexp2_all (N : Nat) : (List.range 101).map (fun (i : Nat) => Rc.rexp2.F (N + 1000) (64 * (i : Int))) = szT.map some := by kernel_rfl
theorem sz_bnd : ∀ i : Fin 101, 0 ≤ szT.getD i.val 0 ∧ szT.getD i.val 0 ≤ 33554432 := by decide +kernel

theorem of_all {f : Nat → Option Int} (h : (List.range 101).map f = szT.map some) {i : Nat} (hi : i ≤ 100) : f i = some (szT.getD i 0) := by
  have e := congrArg (fun l => l[i]?) h
  simp only [List.getElem?_map] at e
  have hl : szT.length = 101 := by decide +kernel
  rw [List.getElem?_range (by omega), List.getElem?_eq_getElem (by omega)] at e
  simp only [Option.map_some, Option.some.injEq] at e
  rw [e, List.getD_eq_getElem?_getD, List.getElem?_eq_getElem (by omega)]
  rfl

theorem sz_range {a : Int} (h0 : 0 ≤ a) (h1 : a ≤ 100) : 0 ≤ sz a ∧ sz a ≤ 33554432 := sz_bnd ⟨a.toNat, by omega⟩

section
variable {N : Nat}
theorem esize_F (hN : 1000 ≤ N) (v : Int) : Rc.esize.F N v = some (sz (cl v)) := by
  obtain ⟨k, rfl⟩ : ∃ k, N = k + 1000 := ⟨N - 1000, by omega⟩
  have hc := cl_range v
  have h := of_all (exp2_all k) (i := (cl v).toNat) (by omega)
  rw [show ((cl v).toNat : Int) = cl v by omega] at h
  unfold Rc.esize.F
  rw [eclamp_F, obind_of, i64 (by omega) (by omega), h, obind_of]
  rfl
end
/-! ### Nearest -/
def ds (v i : Int) : Int := if v ≤ sz i then sz i - v else v - sz i
/-- A number far off may be taken nearer. -/
def cut (v : Int) : Int := if v < 0 then 0 else if v > 67108864 then 67108864 else v
section
variable {N : Nat}
end
end Go.Pl
/-
  Layer 20: pieces, their shares of the bits, and how many pulses these tell: both books alike.
  Conditions: none.
-/
namespace Go.Pl
open Go.Eng Go.Proofs

/-! ### Rows by a rule -/
def seqL (f : Nat → Int) : Nat → Nat → List Int
  | _, 0 => []
  | i, m + 1 => f i :: seqL f (i + 1) m
theorem seqL_len (f : Nat → Int) : ∀ (m i : Nat), (seqL f i m).length = m
  | 0, _ => rfl
  | m + 1, i => by simp [seqL, seqL_len f m]
theorem seqL_get (f : Nat → Int) : ∀ (m i j : Nat), j < m → (seqL f i m).getD j 0 = f (i + j)
  | 0, _, _, h => by omega
  | m + 1, i, 0, _ => by simp [seqL]
  | m + 1, i, j + 1, h => by
    have := seqL_get f m (i + 1) j (by omega)
    simp only [seqL, List.getD_cons_succ]
    rw [this, show i + 1 + j = i + (j + 1) by omega]

/-! ### Pieces -/
def pN (n : Int) : Nat := ((n + 15) / 16).toNat
def pcv (n : Int) (i : Nat) : Int := ((i : Int) + 1) * n / pN n - (i : Int) * n / pN n
def pcs (n : Int) : List Int := seqL (pcv n) 0 (pN n)
theorem pN_range {n : Int} (h0 : 1 ≤ n) (h1 : n ≤ 1000) : 1 ≤ pN n ∧ pN n ≤ 63 ∧ (pN n : Int) = (n + 15) / 16 := by unfold pN; omega
theorem pc_small {n : Int} (h0 : 1 ≤ n) (h1 : n ≤ 1000) {i : Nat} (hi : i ≤ 63) : 0 ≤ (i : Int) * n ∧ (i : Int) * n ≤ 63000 := by
  have a := Int.mul_le_mul (show (i : Int) ≤ 63 by omega) h1 (by omega) (by omega)
  have b := Int.mul_nonneg (show (0 : Int) ≤ i by omega) (show 0 ≤ n by omega)
  omega
theorem pc_div {n : Int} (h0 : 1 ≤ n) (h1 : n ≤ 1000) (i : Nat) : (i : Int) * n / pN n + 1 ≤ ((i : Int) + 1) * n / pN n ∧ ((i : Int) + 1) * n / pN n ≤ (i : Int) * n / pN n + 16 := by
  obtain ⟨p0, _, p2⟩ := pN_range h0 h1
  have e : ((i : Int) + 1) * n = i * n + n := by grind
  rw [e]
  generalize (i : Int) * n = x
  generalize (pN n : Int) = p at *
  have q1 := Int.mul_ediv_add_emod x p
  have q2 := Int.emod_nonneg x (show p ≠ 0 by omega)
  have q3 := Int.emod_lt_of_pos x (show 0 < p by omega)
  constructor
  · rw [Int.le_ediv_iff_mul_le (by omega)]
    have : (x / p + 1) * p = p * (x / p) + p := by grind
    omega
  · have : (x + n) / p < x / p + 17 := by
      rw [Int.ediv_lt_iff_lt_mul (by omega)]
      have : (x / p + 17) * p = p * (x / p) + 17 * p := by grind
      omega
    omega
theorem pcv_range {n : Int} (h0 : 1 ≤ n) (h1 : n ≤ 1000) (i : Nat) : 1 ≤ pcv n i ∧ pcv n i ≤ 16 := by
  have := pc_div h0 h1 i
  unfold pcv
  omega

section
variable {N : Nat}
theorem rclamp100b (v : Int) : Rc.rclamp.F N v 0 100 = some (cl v) := by
  unfold Rc.rclamp.F cl
  simp only [br_dec]
  by_cases c1 : v < 0
  · rw [if_pos c1, if_pos c1]
  by_cases c2 : v > 100
  · rw [if_neg c1, if_pos c2, if_neg c1, if_neg (by omega), if_pos c2]
  · rw [if_neg c1, if_neg c2, if_neg c1, if_neg (by omega), if_neg c2]
theorem rsizeb_F (hN : 1000 ≤ N) (v : Int) : Rc.rsize.F N v = some (sz (cl v)) := by
  obtain ⟨k, rfl⟩ : ∃ k, N = k + 1000 := ⟨N - 1000, by omega⟩
  have hc := cl_range v
  have h := of_all (rexp2_all k) (i := (cl v).toNat) (by omega)
  rw [show ((cl v).toNat : Int) = cl v by omega] at h
  unfold Rc.rsize.F
  rw [rclamp100b, obind_of, i64 (by omega) (by omega), h, obind_of]
  rfl
theorem apieces_F {n : Int} (h0 : 1 ≤ n) (h1 : n ≤ 1000) : Rc.apieces.F N n = some (pN n : Int) := by
  unfold Rc.apieces.F
  simp only [br_dec]
  obtain ⟨p0, _, p2⟩ := pN_range h0 h1
  rw [if_neg (by omega), if_neg (by omega), i64 (x := n + 16) (by omega) (by omega), i64 (x := n + 16 - 1) (by omega) (by omega), tdiv_ediv (by omega), i64 (by omega) (by omega), p2, show n + 16 - 1 = n + 15 by omega]
theorem pcs_step {n : Int} (h0 : 1 ≤ n) (h1 : n ≤ 1000) {i : Nat} (hi : i < 63) :
    IntKind.i64.wrap (IntKind.i64.wrap ((IntKind.i64.wrap (IntKind.i64.wrap ((i : Int) + 1) * n)).tdiv (pN n : Int)) - IntKind.i64.wrap ((IntKind.i64.wrap ((i : Int) * n)).tdiv (pN n : Int))) = pcv n i := by
  have a := pc_small h0 h1 (i := i) (by omega)
  have b := pc_small h0 h1 (i := i + 1) (by omega)
  rw [show ((i + 1 : Nat) : Int) = (i : Int) + 1 by omega] at b
  obtain ⟨p0, _, _⟩ := pN_range h0 h1
  have d1 := Int.ediv_nonneg a.1 (show (0 : Int) ≤ pN n by omega)
  have d2 := Int.ediv_nonneg b.1 (show (0 : Int) ≤ pN n by omega)
  have d3 := Int.ediv_le_self (pN n : Int) a.1
  have d4 := Int.ediv_le_self (pN n : Int) b.1
  rw [i64 (x := (i : Int) + 1) (by omega) (by omega), i64 (x := ((i : Int) + 1) * n) (by omega) (by omega), i64 (x := (i : Int) * n) (by omega) (by omega), tdiv_ediv b.1, tdiv_ediv a.1, i64 (x := ((i : Int) + 1) * n / pN n) (by omega) (by omega), i64 (x := (i : Int) * n / pN n) (by omega) (by omega), i64 (x := ((i : Int) + 1) * n / pN n - (i : Int) * n / pN n) (by omega) (by omega)]
  rfl
theorem aPieces_loop {n : Int} (h0 : 1 ≤ n) (h1 : n ≤ 1000) : ∀ (nn m i : Nat) (A : List Int), i + m = pN n → A.length ≤ 100 + i → m < nn →
    Rc.aPieces.loop4 N nn n (pN n) (pN n) i A = some (A ++ seqL (pcv n) i m)
  | 0, _, _, _, _, _, h => by omega
  | nn + 1, 0, i, A, hi, hA, h => by
    unfold Rc.aPieces.loop4
    simp only [br_dec]
    rw [if_neg (by omega)]
    simp [seqL]
  | nn + 1, m + 1, i, A, hi, hA, h => by
    obtain ⟨p0, p1, _⟩ := pN_range h0 h1
    unfold Rc.aPieces.loop4
    simp only [br_dec, chkI_same]
    rw [if_pos (by omega), chk_pos (by omega), chk_pos (by omega), pcs_step h0 h1 (by omega), chk_pos (by simp; omega), i64 (x := (i : Int) + 1) (by omega) (by omega)]
    have ih := aPieces_loop h0 h1 nn m (i + 1) (A ++ [pcv n i]) (by omega) (by simp; omega) (by omega)
    rw [show ((i + 1 : Nat) : Int) = (i : Int) + 1 by omega] at ih
    rw [ih]
    simp [seqL]
theorem aPieces_F {n : Int} (h0 : 1 ≤ n) (h1 : n ≤ 1000) (hN : 100 ≤ N) : Rc.aPieces.F N n = some (pcs n) := by
  obtain ⟨p0, p1, _⟩ := pN_range h0 h1
  unfold Rc.aPieces.F
  have h := aPieces_loop (N := N) h0 h1 N (pN n) 0 [] (by omega) (by simp) (by omega)
  rw [show ((0 : Nat) : Int) = 0 from rfl, List.nil_append] at h
  rw [apieces_F h0 h1, obind_of, h, obind_of]
  rfl
theorem rpieces_loop {n : Int} (h0 : 1 ≤ n) (h1 : n ≤ 1000) : ∀ (nn m i : Nat) (A : List Int), i + m = pN n → A.length ≤ 100 + i → m < nn →
    Rc.rpieces.loop6 N nn n (pN n) i A = some (A ++ seqL (pcv n) i m)
  | 0, _, _, _, _, _, h => by omega
  | nn + 1, 0, i, A, hi, hA, h => by
    unfold Rc.rpieces.loop6
    simp only [br_dec]
    rw [if_neg (by omega)]
    simp [seqL]
  | nn + 1, m + 1, i, A, hi, hA, h => by
    obtain ⟨p0, p1, _⟩ := pN_range h0 h1
    unfold Rc.rpieces.loop6
    simp only [br_dec, chkI_same]
    rw [if_pos (by omega), chk_pos (by omega), chk_pos (by omega), pcs_step h0 h1 (by omega), chk_pos (by simp; omega), i64 (x := (i : Int) + 1) (by omega) (by omega)]
    have ih := rpieces_loop h0 h1 nn m (i + 1) (A ++ [pcv n i]) (by omega) (by simp; omega) (by omega)
    rw [show ((i + 1 : Nat) : Int) = (i : Int) + 1 by omega] at ih
    rw [ih]
    simp [seqL]
theorem rpieces_F {n : Int} (h0 : 1 ≤ n) (h1 : n ≤ 1000) (hN : 100 ≤ N) : Rc.rpieces.F N n = some (pcs n) := by
  obtain ⟨p0, p1, p2⟩ := pN_range h0 h1
  unfold Rc.rpieces.F
  simp only [br_dec]
  have h := rpieces_loop (N := N) h0 h1 N (pN n) 0 [] (by omega) (by simp) (by omega)
  rw [show ((0 : Nat) : Int) = 0 from rfl, List.nil_append, p2] at h
  rw [if_neg (by omega), if_neg (by omega), i64 (x := n + 15) (by omega) (by omega), tdiv_ediv (by omega), i64 (by omega) (by omega), h, obind_of]
  rfl

/-! ### Shares -/
def spv (n b : Int) (i : Nat) : Int := if (i : Int) < b % pN n then b / pN n + 1 else b / pN n
def spl (n b : Int) : List Int := seqL (spv n b) 0 (pN n)
theorem asplit_loop {n b : Int} (h0 : 1 ≤ n) (h1 : n ≤ 1000) (b0 : 0 ≤ b) (b1 : b ≤ 1048576) : ∀ (nn m i : Nat) (A : List Int), i + m = pN n → A.length ≤ 100 + i → m < nn →
    Rc.asplit.loop5 N nn b (pN n) (pN n) i A = some (A ++ seqL (spv n b) i m)
  | 0, _, _, _, _, _, h => by omega
  | nn + 1, 0, i, A, hi, hA, h => by
    unfold Rc.asplit.loop5
    simp only [br_dec]
    rw [if_neg (by omega)]
    simp [seqL]
  | nn + 1, m + 1, i, A, hi, hA, h => by
    obtain ⟨p0, p1, _⟩ := pN_range h0 h1
    have d1 := Int.ediv_nonneg b0 (show (0 : Int) ≤ pN n by omega)
    have d3 := Int.ediv_le_self (pN n : Int) b0
    have ih := asplit_loop h0 h1 b0 b1 nn m (i + 1) (A ++ [spv n b i]) (by omega) (by simp; omega) (by omega)
    rw [show ((i + 1 : Nat) : Int) = (i : Int) + 1 by omega] at ih
    unfold Rc.asplit.loop5
    simp only [br_dec, chkI_same]
    rw [if_pos (by omega), chk_pos (by omega), chk_pos (by omega), tmod_emod b0, tdiv_ediv b0, i64 (x := b / pN n) (by omega) (by omega), i64 (x := b / pN n + 1) (by omega) (by omega), i64 (x := (i : Int) + 1) (by omega) (by omega)]
    by_cases c : (i : Int) < b % pN n
    · have hv : spv n b i = b / pN n + 1 := if_pos c
      rw [hv] at ih
      rw [if_pos c, chk_pos (by simp; omega), ih]
      simp [seqL, hv]
    · have hv : spv n b i = b / pN n := if_neg c
      rw [hv] at ih
      rw [if_neg c, chk_pos (by simp; omega), ih]
      simp [seqL, hv]
theorem asplit_F {n b : Int} (h0 : 1 ≤ n) (h1 : n ≤ 1000) (b0 : 0 ≤ b) (b1 : b ≤ 1048576) (hN : 100 ≤ N) : Rc.asplit.F N n b = some (spl n b) := by
  obtain ⟨p0, p1, _⟩ := pN_range h0 h1
  unfold Rc.asplit.F
  have h := asplit_loop (N := N) h0 h1 b0 b1 N (pN n) 0 [] (by omega) (by simp) (by omega)
  rw [show ((0 : Nat) : Int) = 0 from rfl, List.nil_append] at h
  rw [apieces_F h0 h1, obind_of, if_neg (show ¬ (0 : Int) > b by omega), if_neg (by omega), h, obind_of]
  rfl
theorem rsplit_loop {n b : Int} (h0 : 1 ≤ n) (h1 : n ≤ 1000) (b0 : 0 ≤ b) (b1 : b ≤ 1048576) : ∀ (nn m i : Nat) (A : List Int), i + m = pN n → A.length ≤ 100 + i → m < nn →
    Rc.rsplit.loop5 N nn b (pN n) i A = some (A ++ seqL (spv n b) i m)
  | 0, _, _, _, _, _, h => by omega
  | nn + 1, 0, i, A, hi, hA, h => by
    unfold Rc.rsplit.loop5
    simp only [br_dec]
    rw [if_neg (by omega)]
    simp [seqL]
  | nn + 1, m + 1, i, A, hi, hA, h => by
    obtain ⟨p0, p1, _⟩ := pN_range h0 h1
    have d1 := Int.ediv_nonneg b0 (show (0 : Int) ≤ pN n by omega)
    have d3 := Int.ediv_le_self (pN n : Int) b0
    have ih := rsplit_loop h0 h1 b0 b1 nn m (i + 1) (A ++ [spv n b i]) (by omega) (by simp; omega) (by omega)
    rw [show ((i + 1 : Nat) : Int) = (i : Int) + 1 by omega] at ih
    unfold Rc.rsplit.loop5
    simp only [br_dec, chkI_same]
    rw [if_pos (by omega), chk_pos (by omega), chk_pos (by omega), tmod_emod b0, tdiv_ediv b0, i64 (x := b / pN n) (by omega) (by omega), i64 (x := b / pN n + 1) (by omega) (by omega), i64 (x := (i : Int) + 1) (by omega) (by omega)]
    by_cases c : (i : Int) < b % pN n
    · have hv : spv n b i = b / pN n + 1 := if_pos c
      rw [hv] at ih
      rw [if_pos c, chk_pos (by simp; omega), ih]
      simp [seqL, hv]
    · have hv : spv n b i = b / pN n := if_neg c
      rw [hv] at ih
      rw [if_neg c, chk_pos (by simp; omega), ih]
      simp [seqL, hv]
theorem rsplit_F {n b : Int} (h0 : 1 ≤ n) (h1 : n ≤ 1000) (b0 : 0 ≤ b) (b1 : b ≤ 1048576) (hN : 100 ≤ N) : Rc.rsplit.F N n b = some (spl n b) := by
  obtain ⟨p0, p1, _⟩ := pN_range h0 h1
  have hc : Rc.rclamp.F N b 0 1048576 = some b := by
    unfold Rc.rclamp.F
    simp only [br_dec]
    rw [if_neg (by omega), if_neg (by omega), if_neg (by omega)]
  unfold Rc.rsplit.F
  have h := rsplit_loop (N := N) h0 h1 b0 b1 N (pN n) 0 [] (by omega) (by simp) (by omega)
  rw [show ((0 : Nat) : Int) = 0 from rfl, List.nil_append] at h
  rw [hc, obind_of, rpieces_F h0 h1 hN, obind_of, show (pcs n).length = pN n from seqL_len _ _ _, h, obind_of]
  rfl
end

/-! ### Pulses -/
theorem cnt_mono1 (n k : Nat) : cnt (n + 1) k ≤ cnt (n + 1) (k + 1) := by
  rw [cnt_succ]
  have h1 := (cnt_small (n + 1) k)
  have h2 := (cnt_small n (k + 1))
  have h3 := (cnt_small n k)
  omega
theorem cnt_two (n : Nat) : 2 ≤ cnt (n + 1) 1 := by
  have h2 := (cnt_small n (0 + 1))
  rw [show 1 = 0 + 1 from rfl, cnt_succ, cnt_zero, cnt_zero]
  omega
def tells (n : Nat) (b : Int) (k : Nat) : Prop := bl (cnt n k - 1) ≤ b
theorem tells_down {n : Nat} {b : Int} : ∀ {k : Nat} (d : Nat), tells (n + 1) b (k + d) → tells (n + 1) b k
  | _, 0, h => h
  | k, d + 1, h => by
    refine tells_down d ?_
    unfold tells at *
    have := bl_mono (x := cnt (n + 1) (k + d) - 1) (y := cnt (n + 1) (k + (d + 1)) - 1) (by have := cnt_mono1 n (k + d); rw [show k + d + 1 = k + (d + 1) from rfl] at this; omega)
    omega
def kF (n : Nat) (b : Int) : Nat → Nat → Nat
  | 0, k => k
  | f + 1, k => if bl (cnt n (k + 1) - 1) ≤ b then kF n b f (k + 1) else k
theorem kF_spec (n : Nat) (b : Int) : ∀ (f k : Nat), k ≤ kF n b f k ∧ kF n b f k ≤ k + f ∧ (k < kF n b f k → tells n b (kF n b f k)) ∧ (kF n b f k < k + f → ¬ tells n b (kF n b f k + 1))
  | 0, k => by simp [kF]
  | f + 1, k => by
    simp only [kF]
    by_cases c : bl (cnt n (k + 1) - 1) ≤ b
    · rw [if_pos c]
      obtain ⟨a1, a2, a3, a4⟩ := kF_spec n b f (k + 1)
      refine ⟨by omega, by omega, fun _ => ?_, fun h => a4 (by omega)⟩
      by_cases d : k + 1 < kF n b f (k + 1)
      · exact a3 d
      · rw [show kF n b f (k + 1) = k + 1 by omega]; exact c
    · rw [if_neg c]
      exact ⟨by omega, by omega, fun h => by omega, fun _ => c⟩
/-- How many pulses so many bits tell. -/
def kOf (n : Nat) (b : Int) : Nat := kF n b (mostT n).toNat 0
theorem kOf_le (n : Nat) (b : Int) : (kOf n b : Int) ≤ mostT n ∧ (kOf n b : Int) ≤ 64 := by
  have h := (kF_spec n b (mostT n).toNat 0).2.1
  have := mostT_range n
  unfold kOf
  omega
theorem kOf_eq {n : Nat} {b : Int} {k : Nat} (hk : k ≤ (mostT (n + 1 : Nat)).toNat) (h1 : 0 < k → tells (n + 1) b k) (h2 : k < (mostT (n + 1 : Nat)).toNat → ¬ tells (n + 1) b (k + 1)) : kOf (n + 1) b = k := by
  obtain ⟨_, a2, a3, a4⟩ := kF_spec (n + 1) b (mostT (n + 1 : Nat)).toNat 0
  change kOf (n + 1) b ≤ _ at a2
  change 0 < kOf (n + 1) b → tells (n + 1) b (kOf (n + 1) b) at a3
  change kOf (n + 1) b < _ → ¬ tells (n + 1) b (kOf (n + 1) b + 1) at a4
  rcases Nat.lt_trichotomy (kOf (n + 1) b) k with c | c | c
  · exact absurd (tells_down (k := kOf (n + 1) b + 1) (k - (kOf (n + 1) b + 1)) (by rw [show kOf (n + 1) b + 1 + (k - (kOf (n + 1) b + 1)) = k by omega]; exact h1 (by omega))) (a4 (by omega))
  · exact c
  · exact absurd (tells_down (k := k + 1) (kOf (n + 1) b - (k + 1)) (by rw [show k + 1 + (kOf (n + 1) b - (k + 1)) = kOf (n + 1) b by omega]; exact a3 (by omega))) (h2 (by omega))
theorem kOf_none {n : Nat} {b : Int} (hb : b < 1) : kOf (n + 1) b = 0 := by
  refine kOf_eq (by omega) (fun h => by omega) fun _ h => ?_
  unfold tells at h
  have := cnt_two n
  have h1 := bl_mono (x := 1) (y := cnt (n + 1) 1 - 1) (by omega)
  have : bl 1 = 1 := by decide +kernel
  rw [show (0 : Nat) + 1 = 1 from rfl] at h
  omega

section
variable {N : Nat}
theorem paid_loop {n : Nat} {b : Int} (n0 : 1 ≤ n) (n1 : n ≤ 16) (hN : 3000 ≤ N) : ∀ (nn f k : Nat), (k : Int) + f ≤ 64 → f < nn →
    Rc.rpaid.loop7 N nn n b ((k : Int) + f) k = some (kF n b f k : Int)
  | 0, _, _, _, h => by omega
  | nn + 1, 0, k, hk, h => by
    unfold Rc.rpaid.loop7
    simp only [br_dec]
    rw [if_neg (by omega)]
    rfl
  | nn + 1, f + 1, k, hk, h => by
    unfold Rc.rpaid.loop7
    simp only [br_dec, chkI_same]
    have hr := cntA_range n (k + 1)
    have hA : cntA n ((k : Int) + 1) = cnt n (k + 1) := by
      unfold cntA
      rw [if_pos (by omega)]
      congr 1
    have hs := cnt_small n (k + 1)
    rw [if_pos (by omega), i64 (x := (k : Int) + 1) (by omega) (by omega), qcount_F _ _ hN, obind_of, hA, i64 (by omega) (by omega), rlen_F (by omega) (by omega), obind_of]
    simp only [kF]
    by_cases c : bl (cnt n (k + 1) - 1) ≤ b
    · have ih := paid_loop (b := b) n0 n1 hN nn f (k + 1) (by omega) (by omega)
      rw [show ((k + 1 : Nat) : Int) + f = (k : Int) + ((f + 1 : Nat) : Int) by omega, show ((k + 1 : Nat) : Int) = (k : Int) + 1 by omega] at ih
      rw [if_pos c, if_pos c, ih]
    · rw [if_neg c, if_neg c]
theorem rpaid_F {n : Nat} {b : Int} (n0 : 1 ≤ n) (n1 : n ≤ 16) (hN : 3000 ≤ N) : Rc.rpaid.F N n b = some (kOf n b : Int) := by
  unfold Rc.rpaid.F
  simp only [br_dec]
  have hm := mostT_range n
  rw [if_neg (by omega), if_neg (by omega)]
  by_cases c : b < 1
  · obtain ⟨m, rfl⟩ : ∃ m, n = m + 1 := ⟨n - 1, by omega⟩
    rw [if_pos c, kOf_none c]
    rfl
  · have h := paid_loop (N := N) (b := b) n0 n1 hN N (mostT n).toNat 0 (by omega) (by omega)
    rw [show ((0 : Nat) : Int) + ((mostT n).toNat : Int) = mostT n by omega, show ((0 : Nat) : Int) = 0 from rfl] at h
    rw [if_neg c, qmost_F, obind_of, h, obind_of]
    rfl
theorem pulses_loop {n : Nat} {b : Int} (n1 : n + 1 ≤ 16) (hN : 3000 ≤ N) : ∀ (nn lo hi : Nat), lo ≤ hi → hi ≤ (mostT (n + 1 : Nat)).toNat → (0 < lo → tells (n + 1) b lo) → (hi < (mostT (n + 1 : Nat)).toNat → ¬ tells (n + 1) b (hi + 1)) → hi - lo < nn →
    Rc.apulses.loop2 N nn (n + 1 : Nat) b lo hi = some (kOf (n + 1) b : Int)
  | 0, _, _, _, _, _, _, h => by omega
  | nn + 1, lo, hi, h0, h1, h2, h3, h => by
    have hm := mostT_range (n + 1 : Nat)
    unfold Rc.apulses.loop2
    simp only [br_dec, chkI_same]
    by_cases c : lo < hi
    · have hmid : IntKind.i64.wrap ((IntKind.i64.wrap (IntKind.i64.wrap ((lo : Int) + hi) + 1)).tdiv 2) = (((lo + hi + 1) / 2 : Nat) : Int) := by
        rw [i64 (x := (lo : Int) + hi) (by omega) (by omega), i64 (x := (lo : Int) + hi + 1) (by omega) (by omega), tdiv_ediv (by omega), i64 (by omega) (by omega)]
        omega
      obtain ⟨m, hmm⟩ : ∃ m, (lo + hi + 1) / 2 = m + 1 := ⟨(lo + hi + 1) / 2 - 1, by omega⟩
      rw [hmm] at hmid
      have hA : cntA (n + 1 : Nat) ((m + 1 : Nat) : Int) = cnt (n + 1) (m + 1) := by
        unfold cntA
        rw [if_pos (by omega), Int.toNat_natCast, Int.toNat_natCast]
      have hs := cnt_small (n + 1) (m + 1)
      have hp := cnt_pos n (m + 1)
      have hl : Rc.flen.F N (cnt (n + 1) (m + 1) - 1) = some (bl (cnt (n + 1) (m + 1) - 1)) := by
        unfold Rc.flen.F
        simp only [br_dec]
        by_cases d : cnt (n + 1) (m + 1) - 1 ≤ 0
        · rw [if_pos d, bl_zero d]
        · rw [if_neg d, u64 (by omega) (by omega), len64_F (by omega) (by omega), obind_of]
      rw [if_pos (by omega), hmid, pcount_F _ _ hN, obind_of, hA, i64 (by omega) (by omega), hl, obind_of]
      by_cases d : bl (cnt (n + 1) (m + 1) - 1) ≤ b
      · rw [if_pos d]
        exact pulses_loop n1 hN nn (m + 1) hi (by omega) h1 (fun _ => d) h3 (by omega)
      · rw [if_neg d, i64 (by omega) (by omega), show ((m + 1 : Nat) : Int) - 1 = (m : Int) by omega]
        exact pulses_loop n1 hN nn lo m (by omega) (by omega) h2 (fun _ => d) (by omega)
    · rw [if_neg (by omega)]
      rw [kOf_eq (k := lo) (by omega) h2 (fun hh => by have := h3 (by omega); rwa [show hi = lo by omega] at this)]
theorem apulses_F {n : Nat} {b : Int} (n0 : 1 ≤ n) (n1 : n ≤ 16) (hN : 3000 ≤ N) : Rc.apulses.F N n b = some (kOf n b : Int) := by
  obtain ⟨m, rfl⟩ : ∃ m, n = m + 1 := ⟨n - 1, by omega⟩
  have hm := mostT_range (m + 1 : Nat)
  unfold Rc.apulses.F
  have h := pulses_loop (N := N) (b := b) n1 hN N 0 (mostT (m + 1 : Nat)).toNat (by omega) (by omega) (fun h => by omega) (fun h => by omega) (by omega)
  rw [show (((mostT (m + 1 : Nat)).toNat : Nat) : Int) = mostT (m + 1 : Nat) by omega, show ((0 : Nat) : Int) = 0 from rfl] at h
  rw [pmost_F _ hN, obind_of, h, obind_of]
end
end Go.Pl
/-
  Layer 17: what is written is read; any bytes are read by both in one way.
  Conditions: none.
-/
namespace Go.Pl
open Go.Eng Go.Proofs
set_option maxRecDepth 100000

section
variable {N : Nat}
theorem new_tell {b : List Int} : (Q.new b).tell (cnew b) = 1 := by
  have e32 : bl 2147483648 = 32 := by decide +kernel
  unfold Q.tell
  rw [cnew_eq, (Q.new_rng b).1, (Q.new_rng b).2, e32]
  rfl

end
end Go.Pl
/-
  Layer 20: a band is read by both books alike; one without bits is quiet noise.
  Conditions: none.
-/
namespace Go.Pl
open Go.Eng Go.Proofs
set_option maxRecDepth 100000

theorem vec_fill {n k : Nat} {v : Int} {e : Int} (n0 : 1 ≤ n) (n1 : n ≤ 16) (hk : k ≤ 64) (hkm : (k : Int) ≤ mostT n) (v0 : 0 ≤ v) (v1 : v < cnt n k) : FillOk (vec n k v) (sz (cl e)) := by
  obtain ⟨h1, h2, _⟩ := vec_spec n k v v0 v1 (un_most n0 n1 hkm)
  have h3 := (sz1_small (vec n k v) (by omega)).2
  have hc := cl_range e
  have hs := sz_range hc.1 hc.2
  exact ⟨by omega, by omega, hs.1, hs.2, (ok64_iff _).2 fun x hx => by have := h3 x hx; omega⟩
/-- Half the size, rounded up. -/
def hv (e : Int) : Int := (cz (sz (cl e)) + 1) / 2
theorem hn_nat {m : Nat} (h0 : 1 ≤ m) (h1 : m ≤ 16) : hn (m : Int) = m := by
  unfold hn
  rw [if_neg (by omega), if_neg (by omega), Int.toNat_natCast]

section
variable {N : Nat} {b : List Int}
theorem uint_all (hb : Bytes b) (hl : b.length < 1099511627776) {q : Q} (h : q.Ok) {w : W} (hw : w.Ok) {ft : Int} (f0 : 1 ≤ ft) (f1 : ft ≤ 4294967295) {count : Int} (hc0 : 0 ≤ count) (hc1 : count < 1099511000000) (bad : Bool) (hN : 300 ≤ N) :
    ∃ (v : Int) (q' : Q) (w' : W) (c' : Int) (bad' : Bool), q'.Ok ∧ w'.Ok ∧ 0 ≤ v ∧ v < ft ∧ 0 ≤ c' ∧ c' ≤ count + 64 ∧
      Rc.uint.F N ft q.rng q.val q.last (fr b q.m) (fr b w.k) w.win (w.wai : Int) count bad b = some (v, q'.rng, q'.val, q'.last, fr b q'.m, fr b w'.k, w'.win, (w'.wai : Int), c', bad') ∧
      ∀ eq, ∃ eq', Rc.ruint.F N ft q.rng q.val q.last (fr b q.m) (fr b w.k) w.win (w.wai : Int) count eq bad b = some (v, q'.rng, q'.val, q'.last, fr b q'.m, fr b w'.k, w'.win, (w'.wai : Int), c', eq', bad') := by
  by_cases c1 : ft ≤ 1
  · exact ⟨0, q, w, count, bad, h, hw, by omega, by omega, hc0, by omega, uint_out (Or.inl c1), fun eq => ⟨eq, ruint_out (Or.inl c1)⟩⟩
  have hm := ct_range (b := b) (Q.un_m b q ft) count
  have hok := Q.un_ok hb h (ft := ft) (by omega) f1
  by_cases c2 : ft ≤ 256
  · obtain ⟨e0, e1⟩ := Q.ch_range h (ft := ft) (by omega) (by omega)
    exact ⟨_, _, w, _, _, hok, hw, e0, e1, by omega, by omega, uint_small hb hl h (by omega) c2 hc0 (by omega) hN, fun eq => ruint_small hb hl h (by omega) c2 hc0 (by omega) hN⟩
  · obtain ⟨b0, b1, _⟩ := ub_range (ft := ft) (by omega) f1
    obtain ⟨u0, u1, _⟩ := uv_range (b := b) h w (ft := ft) (by omega) f1
    refine ⟨_, _, w.next b (ub ft), _, _, hok, W.next_ok hb hw b1, ?_, ?_, ?_, ?_, uint_great hb hl h hw (by omega) f1 hc0 (by omega) hN, fun eq => ruint_great hb hl h hw (by omega) f1 hc0 (by omega) hN⟩
    · split <;> omega
    · split <;> omega
    · omega
    · omega

theorem filled_some {y : List Int} {m e s : Int} (h : FillOk y (sz (cl e))) (hN : 1000 ≤ N) : Rc.filled.F N m e s y = some (s, fillV (sz (cl e)) y) := by
  unfold Rc.filled.F
  obtain ⟨k, hk⟩ : ∃ k, y.length = k + 1 := ⟨y.length - 1, by have := h.1; omega⟩
  rw [hk]
  show (obind (Rc.esize.F N e) fun r2 => (obind (Rc.sfill.F N r2 y) fun r3 => some (s, r3.snd))) = _
  rw [esize_F hN, obind_of, sfill_F (by omega) h, obind_of]
theorem filledN_F {m : Nat} {e s : Int} (m0 : 1 ≤ m) (m1 : m ≤ 16) (hN : 3000 ≤ N) : Rc.filledN.F N m e s = some ((hsh (hv e) m s).2, (hsh (hv e) m s).1) := by
  unfold Rc.filledN.F
  rw [esize_F (by omega), obind_of, shush_F (by omega), obind_of, hn_nat m0 m1]
  rfl

/-- A piece without pulses. -/
theorem rclo_none {from_ e rng val last front back window waiting count s : Int} {bad : Bool} {out : List Int} {m : Nat} (m0 : 1 ≤ m) (m1 : m ≤ 16) (ho : out.length ≤ 100000) (hN : 3000 ≤ N) :
    Rc.rclo.F N from_ m ((0 : Nat) : Int) e rng val last front back window waiting count s bad out b = some (rng, val, last, front, back, window, waiting, count, (hsh (hv e) m s).2, bad, out ++ (hsh (hv e) m s).1) := by
  unfold Rc.rclo.F
  simp only [br_dec, chkI_same, chkL_same]
  rw [if_neg (by omega), filledN_F m0 m1 hN, obind_of, chk_pos (by simp only [hsh_len]; omega)]
/-- A piece with pulses. -/
theorem rclo_some (hb : Bytes b) (hl : b.length < 1099511627776) {q : Q} (h : q.Ok) {w : W} (hw : w.Ok) {count : Int} (hc0 : 0 ≤ count) (hc1 : count < 1099511000000) {bad : Bool} {from_ e s : Int} {out : List Int} {m k : Nat} (m0 : 1 ≤ m) (m1 : m ≤ 16) (k0 : 1 ≤ k) (k1 : k ≤ 64) (hk : (k : Int) ≤ mostT m) (ho : out.length ≤ 100000) (hN : 3000 ≤ N) :
    ∃ (v : Int) (q' : Q) (w' : W) (c' : Int) (bad' : Bool), q'.Ok ∧ w'.Ok ∧ 0 ≤ v ∧ v < cnt m k ∧ 0 ≤ c' ∧ c' ≤ count + 64 ∧
      Rc.rclo.F N from_ m k e q.rng q.val q.last (fr b q.m) (fr b w.k) w.win (w.wai : Int) count s bad out b = some (q'.rng, q'.val, q'.last, fr b q'.m, fr b w'.k, w'.win, (w'.wai : Int), c', s, bad', out ++ fillV (sz (cl e)) (vec m k v)) ∧
      ∀ eq, ∃ eq', Rc.ruint.F N (cnt m k) q.rng q.val q.last (fr b q.m) (fr b w.k) w.win (w.wai : Int) count eq bad b = some (v, q'.rng, q'.val, q'.last, fr b q'.m, fr b w'.k, w'.win, (w'.wai : Int), c', eq', bad') := by
  have hu := un_most m0 m1 hk
  obtain ⟨m', rfl⟩ : ∃ m', m = m' + 1 := ⟨m - 1, by omega⟩
  have hp := cnt_pos m' k
  obtain ⟨v, q', w', c', bad', g1, g2, g3, g4, g5, g6, g7, g8⟩ := uint_all (N := N) hb hl h hw (ft := cnt (m' + 1) k) hp (by omega) hc0 hc1 bad (by omega)
  refine ⟨v, q', w', c', bad', g1, g2, g3, g4, g5, g6, ?_, g8⟩
  have hA : cntA ((m' + 1 : Nat) : Int) (k : Int) = cnt (m' + 1) k := by
    unfold cntA
    rw [if_pos (by omega), Int.toNat_natCast, Int.toNat_natCast]
  have hv : VOk ((m' + 1 : Nat) : Int) (k : Int) v := ⟨by omega, by omega, by omega, hk, g3, by rw [hA]; exact g4⟩
  have hread : Rc.pread.F N ((m' + 1 : Nat) : Int) (k : Int) q.rng q.val q.last (fr b q.m) (fr b w.k) w.win (w.wai : Int) count bad b = some (0, q'.rng, q'.val, q'.last, fr b q'.m, fr b w'.k, w'.win, (w'.wai : Int), c', bad', vec (m' + 1) k v) := by
    unfold Rc.pread.F
    simp only [br_dec, br_not, chkL_same]
    rw [pmay_F, obind_of, decide_eq_true (by omega), if_pos rfl, if_neg (by omega), pmost_F _ hN, obind_of, if_neg (by omega), pcount_F _ _ hN, obind_of, hA, g7, obind_of]
    simp only
    rw [pvector_F _ _ _ hN, obind_of, if_pos hv]
    simp
  have hfo := vec_fill (e := e) m0 m1 k1 hk g3 g4
  have hlen := (vec_spec (m' + 1) k v g3 g4 hu).1
  unfold Rc.rclo.F
  simp only [br_dec, chkI_same, chkL_same]
  rw [if_pos (by omega), hread, obind_of]
  simp only
  rw [filled_some hfo (by omega), obind_of, chk_pos (by simp only [fillV_len]; omega)]
end

/-! ### Both go through the pieces -/
section
variable {N : Nat} {b : List Int}
theorem pcs_get {n : Int} {i : Nat} (h : i < pN n) : (pcs n).getD i 0 = pcv n i := by
  have := seqL_get (pcv n) (pN n) 0 i h
  rwa [Nat.zero_add] at this
theorem spl_get {n bb : Int} {i : Nat} (h : i < pN n) : (spl n bb).getD i 0 = spv n bb i := by
  have := seqL_get (spv n bb) (pN n) 0 i h
  rwa [Nat.zero_add] at this
theorem pcs_len (n : Int) : (pcs n).length = pN n := seqL_len _ _ _
theorem spl_len (n bb : Int) : (spl n bb).length = pN n := seqL_len _ _ _

theorem reads_loop (hb : Bytes b) (hl : b.length < 1099511627776) {n bb e : Int} (h0 : 1 ≤ n) (h1 : n ≤ 1000) (hN : 3000 ≤ N) : ∀ (nn m i : Nat) (from_ : Int) (q : Q) (w : W) (c s : Int) (bad : Bool) (out : List Int),
    i + m = pN n → q.Ok → w.Ok → 0 ≤ c → (True → c + 64 * (m : Int) ≤ 1099510000000) → 0 ≤ s → (True → s < 4294967296) → out.length ≤ 16 * i → m < nn →
    ∃ (q' : Q) (w' : W) (c' s' : Int) (bad' : Bool) (out' : List Int), q'.Ok ∧ 0 ≤ c' ∧ c' < 1099511627776 ∧ out'.length ≤ 16 * pN n ∧
      Rc.piecesR.loop2 N nn (pN n) e (spl n bb) (pcs n) b from_ i q.rng q.val q.last (fr b q.m) (fr b w.k) w.win (w.wai : Int) c s bad out = some (q'.rng, q'.val, q'.last, fr b q'.m, fr b w'.k, w'.win, (w'.wai : Int), c', s', bad', out') ∧
      ∀ eq, ∃ eq', Rc.rband.loop5 N nn e b (pcs n) (spl n bb) i q.rng q.val q.last (fr b q.m) (fr b w.k) w.win (w.wai : Int) c eq s bad out = some (q'.rng, q'.val, q'.last, fr b q'.m, fr b w'.k, w'.win, (w'.wai : Int), c', eq', s', bad', out')
  | 0, _, _, _, _, _, _, _, _, _, _, _, _, _, _, _, _, _, h => by omega
  | nn + 1, 0, i, from_, q, w, c, s, bad, out, hi, hq, hw, c0, c1, s0, s1, ho, h => by
    have c1 := c1 trivial
    refine ⟨q, w, c, s, bad, out, hq, c0, by omega, by omega, ?_, fun eq => ⟨eq, ?_⟩⟩
    · unfold Rc.piecesR.loop2
      simp only [br_dec, chkI_same, chkL_same]
      rw [if_neg (by omega)]
    · unfold Rc.rband.loop5
      simp only [br_dec, chkI_same, chkL_same, pcs_len]
      rw [if_neg (by omega)]
  | nn + 1, m + 1, i, from_, q, w, c, s, bad, out, hi, hq, hw, c0, c1, s0, s1, ho, h => by
    have c1 := c1 trivial
    have s1 := s1 trivial
    obtain ⟨p0, p1, _⟩ := pN_range h0 h1
    obtain ⟨r0, r1⟩ := pcv_range h0 h1 i
    obtain ⟨mm, hmm⟩ : ∃ mm : Nat, pcv n i = mm := ⟨(pcv n i).toNat, by omega⟩
    rw [hmm] at r0 r1
    have hk := kOf_le mm (spv n bb i)
    have hP := pcs_get (n := n) (i := i) (by omega)
    have hS := spl_get (n := n) (bb := bb) (i := i) (by omega)
    rw [hmm] at hP
    by_cases ck : kOf mm (spv n bb i) = 0
    · have hrs := hsh_range (hv e) mm s s0 s1
      have ih := reads_loop hb hl (bb := bb) (e := e) h0 h1 hN nn m (i + 1) (IntKind.i64.wrap (from_ + mm)) q w c (hsh (hv e) mm s).2 bad (out ++ (hsh (hv e) mm s).1) (by omega) hq hw c0 (fun _ => by omega) hrs.1 (fun _ => hrs.2) (by rw [List.length_append, hsh_len]; omega) (by omega)
      rw [show ((i + 1 : Nat) : Int) = (i : Int) + 1 by omega] at ih
      obtain ⟨q', w', c', s', bad', out', g1, g2, g3, g4, g5, g6⟩ := ih
      refine ⟨q', w', c', s', bad', out', g1, g2, g3, g4, ?_, fun eq => ?_⟩
      · unfold Rc.piecesR.loop2
        simp only [br_dec, chkI_same, chkL_same, pcs_len, spl_len, Int.toNat_natCast, hP, hS]
        rw [if_pos (by omega), chk_pos (by omega), chk_pos (by omega), apulses_F (by omega) (by omega) hN, obind_of, i64 (x := (i : Int) + 1) (by omega) (by omega)]
        rw [ck, rclo_none (by omega) (by omega) (by omega) hN, obind_of]
        exact g5
      · obtain ⟨eq', g6⟩ := g6 eq
        refine ⟨eq', ?_⟩
        unfold Rc.rband.loop5
        simp only [br_dec, br_beq, chkI_same, chkL_same, chkN_same, pcs_len, spl_len, Int.toNat_natCast, hP, hS]
        rw [if_pos (by omega), chk_pos (by omega), chk_pos (by omega), rpaid_F (by omega) (by omega) hN, obind_of, i64 (x := (i : Int) + 1) (by omega) (by omega)]
        rw [ck, if_pos (show ((0 : Nat) : Int) = 0 from rfl), chk_pos (by omega), rsizeb_F (by omega), obind_of, rhush_F (by omega) _ _ s0 s1, obind_of, hn_nat (by omega) (by omega)]
        simp only
        rw [chk_pos (by simp only [hsh_len]; omega), chk_pos (by omega)]
        exact g6
    · obtain ⟨v, q1, w1, c1', bad1, a1, a2, a3, a4, a5, a6, a7, a8⟩ := rclo_some (N := N) hb hl hq hw c0 (by omega) (bad := bad) (from_ := from_) (e := e) (s := s) (out := out) (m := mm) (k := kOf mm (spv n bb i)) (by omega) (by omega) (by omega) (by omega) hk.1 (by omega) hN
      have hu := un_most (n := mm) (k := kOf mm (spv n bb i)) (by omega) (by omega) hk.1
      have hlen := (vec_spec mm (kOf mm (spv n bb i)) v a3 a4 hu).1
      have hfo := vec_fill (e := e) (n := mm) (k := kOf mm (spv n bb i)) (by omega) (by omega) (by omega) hk.1 a3 a4
      have hA : cntA (mm : Int) (kOf mm (spv n bb i) : Int) = cnt mm (kOf mm (spv n bb i)) := by
        unfold cntA
        rw [if_pos (by omega), Int.toNat_natCast, Int.toNat_natCast]
      have hvo : VOk (mm : Int) (kOf mm (spv n bb i) : Int) v := ⟨by omega, by omega, by omega, hk.1, a3, by rw [hA]; exact a4⟩
      have ih := reads_loop hb hl (bb := bb) (e := e) h0 h1 hN nn m (i + 1) (IntKind.i64.wrap (from_ + mm)) q1 w1 c1' s bad1 (out ++ fillV (sz (cl e)) (vec mm (kOf mm (spv n bb i)) v)) (by omega) a1 a2 a5 (fun _ => by omega) s0 (fun _ => s1) (by rw [List.length_append, fillV_len]; omega) (by omega)
      rw [show ((i + 1 : Nat) : Int) = (i : Int) + 1 by omega] at ih
      obtain ⟨q', w', c', s', bad', out', g1, g2, g3, g4, g5, g6⟩ := ih
      refine ⟨q', w', c', s', bad', out', g1, g2, g3, g4, ?_, fun eq => ?_⟩
      · unfold Rc.piecesR.loop2
        simp only [br_dec, chkI_same, chkL_same, pcs_len, spl_len, Int.toNat_natCast, hP, hS]
        rw [if_pos (by omega), chk_pos (by omega), chk_pos (by omega), apulses_F (by omega) (by omega) hN, obind_of, i64 (x := (i : Int) + 1) (by omega) (by omega)]
        rw [a7, obind_of]
        exact g5
      · obtain ⟨eq1, a8⟩ := a8 eq
        obtain ⟨eq', g6⟩ := g6 eq1
        refine ⟨eq', ?_⟩
        unfold Rc.rband.loop5
        simp only [br_dec, br_beq, chkI_same, chkL_same, chkN_same, pcs_len, spl_len, Int.toNat_natCast, hP, hS]
        rw [if_pos (by omega), chk_pos (by omega), chk_pos (by omega), rpaid_F (by omega) (by omega) hN, obind_of, i64 (x := (i : Int) + 1) (by omega) (by omega)]
        rw [if_neg (by omega), chk_pos (by omega), chk_pos (by omega), qcount_F _ _ hN, obind_of, hA, a8, obind_of]
        simp only
        rw [qvector_F hvo hN, obind_of, rsizeb_F (by omega), obind_of]
        simp only [Int.toNat_natCast]
        rw [rfill_F (by omega) _ _ hfo, obind_of, chk_pos (by simp only [fillV_len]; omega), chk_pos (by omega), chk_pos (by omega)]
        exact g6
end

theorem shapeReads_pure (b : List Int) (n bits e seed : Int) (hb : Bytes b) (s0 : 0 ≤ seed) (s1 : seed < 4294967296) : ∃ N, Rc.shapeReads.F N b n bits e seed = some true := by
  refine ⟨30000, ?_⟩
  unfold Rc.shapeReads.F
  rw [awake20_F (by omega), obind_of]
  simp only [br_not, if_true, br_dec]
  by_cases c1 : (b.length : Int) > 500
  · rw [if_pos c1]
  rw [if_neg c1]
  by_cases c2 : n > 200
  · rw [if_pos c2]
  have hq := Q.new_ok hb
  have hc := cnew_range b
  rw [if_neg c2, new_F hb (by omega) (by omega), obind_of]
  simp only
  have ht : Rc.tell.F 30000 (Q.new b).rng (Q.new b).val (Q.new b).last (fr b (Q.new b).m) 0 0 0 (cnew b) false b = some 1 := by
    rw [tell_F hq (by omega) (by omega), new_tell]
  unfold Rc.sread.F
  simp only [br_dec, br_beq, chkL_same]
  by_cases d1 : n < 1
  · rw [if_pos d1, obind_of]
    simp only
    rw [if_pos d1, ht]
    simp [obind_of, br]
  rw [if_neg d1, if_neg (show ¬ n > 1000 by omega)]
  by_cases d2 : bits < 0
  · rw [if_pos d2, obind_of]
    simp only
    rw [if_neg d1, if_pos d2, ht]
    simp [obind_of, br]
  rw [if_neg d2]
  by_cases d3 : bits > 1048576
  · rw [if_pos d3, obind_of]
    simp only
    rw [if_neg d1, if_neg d2, if_pos d3, ht]
    simp [obind_of, br]
  rw [if_neg d3]
  obtain ⟨p0, p1, _⟩ := pN_range (n := n) (by omega) (by omega)
  obtain ⟨q', w', c', s', bad', out', g1, g2, g3, g4, g5, g6⟩ := reads_loop (N := 30000) hb (by omega) (n := n) (bb := bits) (e := e) (by omega) (by omega) (by omega) 30000 (pN n) 0 0 (Q.new b) W.new (cnew b) seed false [] (by omega) hq W.new_ok (by omega) (fun _ => by omega) s0 (fun _ => s1) (by simp) (by omega)
  obtain ⟨eq', g6⟩ := g6 0
  have e1 : fr b W.new.k = 0 := rfl
  have e2 : W.new.win = 0 := rfl
  have e3 : (W.new.wai : Int) = 0 := rfl
  rw [e1, e2, e3, show ((0 : Nat) : Int) = 0 from rfl] at g5 g6
  have hR : Rc.piecesR.F 30000 n bits e (Q.new b).rng (Q.new b).val (Q.new b).last (fr b (Q.new b).m) 0 0 0 (cnew b) seed false [] b = some (q'.rng, q'.val, q'.last, fr b q'.m, fr b w'.k, w'.win, (w'.wai : Int), c', s', bad', out') := by
    unfold Rc.piecesR.F
    simp only [chkI_same, chkL_same]
    rw [asplit_F (by omega) (by omega) (by omega) (by omega) (by omega), obind_of, aPieces_F (by omega) (by omega) (by omega), obind_of, pcs_len, g5, obind_of]
  have hB : Rc.rband.F 30000 n bits e (Q.new b).rng (Q.new b).val (Q.new b).last (fr b (Q.new b).m) 0 0 0 (cnew b) 0 seed false b = some (q'.rng, q'.val, q'.last, fr b q'.m, fr b w'.k, w'.win, (w'.wai : Int), c', eq', s', bad', out') := by
    unfold Rc.rband.F
    simp only [chkL_same]
    rw [rpieces_F (by omega) (by omega) (by omega), obind_of, rsplit_F (by omega) (by omega) (by omega) (by omega) (by omega), obind_of, g6, obind_of]
  rw [hR, obind_of, obind_of]
  simp only
  rw [if_neg d1, if_neg d2, if_neg d3, rnew_F hb (by omega) (by omega), obind_of]
  simp only [if_true]
  rw [hB, obind_of]
  simp only
  rw [same20_F _ _ (by omega) (by omega), obind_of, decide_eq_true rfl, br_true, tell_F g1 g2 g3, obind_of, rtell_F g1 g2 g3 (by omega), obind_of]
  simp
end Go.Pl
