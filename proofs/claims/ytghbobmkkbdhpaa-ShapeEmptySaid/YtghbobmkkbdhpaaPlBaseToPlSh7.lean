/-
  Plain words for plain proofs: what the evaluator's marks come to, wraps, bits. Nothing is claimed of the program here.
  Conditions: none.
-/
import Derived.Test.YtghbobmkkbdhpaaEngMkToEngReach
import Derived.Test.YtghbobmkkbdhpaaShapeLaws
import Derived.Test.YtghbobmkkbdhpaaRcFns
import Derived.Test.YtghbobmkkbdhpaaRencFns
set_option linter.unusedVariables false
set_option linter.unusedSimpArgs false
namespace Go.Pl
open Go.Eng
variable {X Y : Type}

/-! ### Marks -/
theorem br_dec {p : Prop} [Decidable p] (t e : Option Y) : br (decide p) t e = if p then t else e := by
  by_cases h : p <;> simp [br, h]
theorem br_not_dec {p : Prop} [Decidable p] (t e : Option Y) : br (!decide p) t e = if p then e else t := by
  by_cases h : p <;> simp [br, h]
theorem br_not (b : Bool) (t e : Option Y) : br (!b) t e = if b = true then e else t := by cases b <;> rfl
theorem br_bne (a b : Int) (t e : Option Y) : br (a != b) t e = if a = b then e else t := by
  by_cases h : a = b
  · subst h; simp [br]
  · have : (a != b) = true := by simpa using h
    rw [this, if_neg h]; rfl
theorem br_beq (a b : Int) (t e : Option Y) : br (a == b) t e = if a = b then t else e := by
  by_cases h : a = b
  · subst h; simp [br]
  · have : (a == b) = false := by simpa using h
    rw [this, if_neg h]; rfl
theorem chk_pos {c : Prop} [Decidable c] (h : c) (k : Option Y) : chk c k = k := by simp [chk, h]
theorem chkI_same (x : Int) (k : Option Y) : chkI x x k = k := by simp [chkI]
theorem chkB_same (x : Bool) (k : Option Y) : chkB x x k = k := by simp [chkB]
theorem chkL_same (x : List Int) (k : Option Y) : chkL x x k = k := by simp [chkL]
theorem obind_of (x : X) (k : X → Option Y) : obind (some x) k = k x := rfl
theorem osum_inl {Z : Type} (x : X) (k : X → Option Z) : osum (some (Sum.inl x)) k = k x := rfl
/-! ### Wraps -/
theorem u64 {x : Int} (h0 : 0 ≤ x) (h1 : x < 18446744073709551616) : IntKind.u64.wrap x = x := by
  simp only [IntKind.wrap, IntKind.signed, IntKind.bits, Bool.false_and, Bool.false_eq_true, if_false]
  omega
theorem u32 {x : Int} (h0 : 0 ≤ x) (h1 : x < 4294967296) : IntKind.u32.wrap x = x := by
  simp only [IntKind.wrap, IntKind.signed, IntKind.bits, Bool.false_and, Bool.false_eq_true, if_false]
  omega
theorem u8 {x : Int} (h0 : 0 ≤ x) (h1 : x < 256) : IntKind.u8.wrap x = x := by
  simp only [IntKind.wrap, IntKind.signed, IntKind.bits, Bool.false_and, Bool.false_eq_true, if_false]
  omega
theorem i64 {x : Int} (h0 : -9223372036854775808 ≤ x) (h1 : x < 9223372036854775808) : IntKind.i64.wrap x = x := by
  simp only [IntKind.wrap, IntKind.signed, IntKind.bits, Bool.true_and]
  split
  · rename_i h
    have h := of_decide_eq_true h
    omega
  · rename_i h
    have h : ¬ _ := fun hh => h (decide_eq_true hh)
    omega
theorem bits_u64 : IntKind.u64.bits = 64 := rfl
/-! ### Bits -/
theorem ofInt_toNat {w : Nat} {a : Int} (h0 : 0 ≤ a) (h1 : a < 2 ^ w) : (BitVec.ofInt w a).toNat = a.toNat := by
  rw [BitVec.toNat_ofInt]
  congr 1
  exact Int.emod_eq_of_lt h0 (by exact_mod_cast h1)

theorem and_nn {w : Nat} {a b : Int} (ha : 0 ≤ a) (ha' : a < 2 ^ w) (hb : 0 ≤ b) (hb' : b < 2 ^ w) : ((BitVec.ofInt w a &&& BitVec.ofInt w b).toNat : Int) = ((a.toNat &&& b.toNat : Nat) : Int) := by
  rw [BitVec.toNat_and, ofInt_toNat ha ha', ofInt_toNat hb hb']
theorem or_nn {w : Nat} {a b : Int} (ha : 0 ≤ a) (ha' : a < 2 ^ w) (hb : 0 ≤ b) (hb' : b < 2 ^ w) : ((BitVec.ofInt w a ||| BitVec.ofInt w b).toNat : Int) = ((a.toNat ||| b.toNat : Nat) : Int) := by
  rw [BitVec.toNat_or, ofInt_toNat ha ha', ofInt_toNat hb hb']

/-- A mask of low bits. -/
theorem and_mask {w k : Nat} {a m : Int} (ha : 0 ≤ a) (ha' : a < 2 ^ w) (hm : m = 2 ^ k - 1) (hk : k ≤ w) : ((BitVec.ofInt w a &&& BitVec.ofInt w m).toNat : Int) = a % 2 ^ k := by
  have h1 : (0 : Int) < 2 ^ k := by exact_mod_cast Nat.two_pow_pos k
  have h2 : (2 : Int) ^ k ≤ 2 ^ w := by exact_mod_cast Nat.pow_le_pow_right (by omega) hk
  rw [and_nn ha ha' (by omega) (by omega)]
  have : m.toNat = 2 ^ k - 1 := by
    rw [hm]
    have : ((2 : Int) ^ k - 1) = ((2 ^ k - 1 : Nat) : Int) := by
      rw [Int.ofNat_sub Nat.one_le_two_pow]
      push_cast
      rfl
    rw [this]; rfl
  rw [this, Nat.and_two_pow_sub_one_eq_mod]
  obtain ⟨n, rfl⟩ := Int.eq_ofNat_of_zero_le ha
  simp

/-- Two numbers without a bit in common. -/
theorem or_add {w k : Nat} {a b : Int} (ha : 0 ≤ a) (ha' : a * 2 ^ k < 2 ^ w) (hb : 0 ≤ b) (hb' : b < 2 ^ k) (hk : k ≤ w) : ((BitVec.ofInt w (a * 2 ^ k) ||| BitVec.ofInt w b).toNat : Int) = a * 2 ^ k + b := by
  have h1 : (0 : Int) < 2 ^ k := by exact_mod_cast Nat.two_pow_pos k
  have h2 : (2 : Int) ^ k ≤ 2 ^ w := by exact_mod_cast Nat.pow_le_pow_right (by omega) hk
  rw [or_nn (Int.mul_nonneg ha (by omega)) ha' hb (by omega)]
  obtain ⟨n, rfl⟩ := Int.eq_ofNat_of_zero_le ha
  obtain ⟨m, rfl⟩ := Int.eq_ofNat_of_zero_le hb
  have e : (((n : Int) * 2 ^ k)).toNat = 2 ^ k * n := by
    have : ((n : Int) * 2 ^ k) = ((2 ^ k * n : Nat) : Int) := by push_cast; rw [Int.mul_comm]
    rw [this]; rfl
  rw [e]
  have hm : m < 2 ^ k := by exact_mod_cast hb'
  have := Nat.two_pow_add_eq_or_of_lt hm n
  rw [Int.toNat_natCast, ← this]
  push_cast
  rw [Int.mul_comm]

theorem fdiv_ediv {a b : Int} (h : 0 ≤ b) : a.fdiv b = a / b := Int.fdiv_eq_ediv_of_nonneg a h
theorem tdiv_ediv {a b : Int} (h : 0 ≤ a) : a.tdiv b = a / b := Int.tdiv_eq_ediv_of_nonneg h
theorem tmod_emod {a b : Int} (h : 0 ≤ a) : a.tmod b = a % b := Int.tmod_eq_emod_of_nonneg h

/-! ### Bytes -/
def Bytes (b : List Int) : Prop := ∀ x ∈ b, 0 ≤ x ∧ x < 256
theorem bytes_of {b : List Int} (h : WfL .u8 b) : Bytes b := fun x hx => by
  have := (h x hx).bounds
  have e1 : IntKind.u8.min = 0 := rfl
  have e2 : IntKind.u8.max = 255 := rfl
  omega
theorem Bytes.get {b : List Int} (h : Bytes b) (i : Nat) : 0 ≤ b.getD i 0 ∧ b.getD i 0 < 256 := by
  rw [List.getD_eq_getElem?_getD]
  cases hb : b[i]? with
  | none => simp
  | some x => simpa using h x (List.mem_of_getElem? hb)
theorem getD_out {b : List Int} {i : Nat} (h : b.length ≤ i) : b.getD i 0 = 0 := by simp [List.getD_eq_getElem?_getD, List.getElem?_eq_none h]

end Go.Pl
/-
  Layer 20: the closed statement: the examples answer as told, by counting through; what each statement's beginning comes to.
  Conditions: none.
-/
namespace Go.Pl
open Go.Eng Go.Proofs
set_option maxRecDepth 100000

theorem awake20_any (N : Nat) : Rc.awake20.F (N + 1000) = some true := by kernel_rfl
theorem awake20_F {N : Nat} (h : 1000 ≤ N) : Rc.awake20.F N = some true := by
  obtain ⟨k, rfl⟩ : ∃ k, N = k + 1000 := ⟨N - 1000, by omega⟩
  exact awake20_any k
end Go.Pl
/-
  Layer 20: noise, number by number.
  Conditions: none.
-/
namespace Go.Pl
open Go.Eng Go.Proofs

def nxt (s : Int) : Int := (s * 1664525 + 1013904223) % 4294967296
def sgv (s : Int) : Int := if nxt s < 2147483648 then 1 else -1
theorem sgv_range (s : Int) : sgv s = 1 ∨ sgv s = -1 := by unfold sgv; split <;> simp
def hsh (v : Int) : Nat → Int → List Int × Int
  | 0, s => ([], s)
  | n + 1, s => (sgv s * v :: (hsh v n (nxt s)).1, (hsh v n (nxt s)).2)
theorem hsh_len (v : Int) : ∀ (n : Nat) (s : Int), (hsh v n s).1.length = n
  | 0, _ => rfl
  | n + 1, s => by simp [hsh, hsh_len v n]
theorem hsh_mem (v : Int) : ∀ (n : Nat) (s : Int), ∀ x ∈ (hsh v n s).1, x = v ∨ x = 0 - v
  | 0, _, x, hx => by simp [hsh] at hx
  | n + 1, s, x, hx => by
    simp only [hsh, List.mem_cons] at hx
    rcases hx with rfl | hx
    · rcases sgv_range s with h | h
      · rw [h]; omega
      · rw [h]; omega
    · exact hsh_mem v n _ x hx

section
variable {N : Nat}
theorem wrap32 (x : Int) : IntKind.u32.wrap x = x % 4294967296 := rfl
theorem nnext_F (s : Int) : Rc.nnext.F N s = some (nxt s, nxt s) := by
  unfold Rc.nnext.F
  rw [wrap32, wrap32]
  have : (s * 1664525 % 4294967296 + 1013904223) % 4294967296 = nxt s := by unfold nxt; omega
  rw [this]
theorem nsign_F (s : Int) : Rc.nsign.F N s = some (sgv s, nxt s) := by
  unfold Rc.nsign.F sgv
  rw [nnext_F, obind_of]
  simp only [br_dec]
  split <;> rfl
theorem half_wrap {c : Int} (h0 : 0 ≤ c) (h1 : c ≤ 33554432) : IntKind.i64.wrap ((IntKind.i64.wrap (c + 1)).tdiv 2) = (c + 1) / 2 := by
  rw [i64 (x := c + 1) (by omega) (by omega), tdiv_ediv (by omega), i64 (by omega) (by omega)]
theorem sgv_mul {s v : Int} (v0 : 0 ≤ v) (v1 : v ≤ 100000000) : IntKind.i64.wrap (sgv s * v) = sgv s * v := by
  rcases sgv_range s with h | h
  · rw [h, i64 (by omega) (by omega)]
  · rw [h, i64 (by omega) (by omega)]

theorem shush_loop {c : Int} (h0 : 0 ≤ c) (h1 : c ≤ 33554432) {n : Nat} (hn : n ≤ 1000) : ∀ (nn m : Nat) (A : List Int) (s : Int), A.length + m = n → m < nn →
    Rc.shush.loop6 N nn c n A.length s (A ++ List.replicate m 0) = some ((hsh ((c + 1) / 2) m s).2, A ++ (hsh ((c + 1) / 2) m s).1)
  | 0, m, A, s, _, h => by omega
  | nn + 1, 0, A, s, hA, h => by
    unfold Rc.shush.loop6
    simp only [br_dec]
    rw [if_neg (by omega)]
    simp [hsh]
  | nn + 1, m + 1, A, s, hA, h => by
    unfold Rc.shush.loop6
    simp only [br_dec, chkI_same, Int.toNat_natCast]
    rw [if_pos (by omega), nsign_F, obind_of, chk_pos (by simp; omega), half_wrap h0 h1, sgv_mul (by omega) (by omega), i64 (x := (A.length : Int) + 1) (by omega) (by omega)]
    have hs : (A ++ List.replicate (m + 1) (0 : Int)).set A.length (sgv s * ((c + 1) / 2)) = (A ++ [sgv s * ((c + 1) / 2)]) ++ List.replicate m 0 := by
      rw [List.replicate_succ, List.set_append_right _ _ (Nat.le_refl _)]
      simp
    rw [hs]
    have ih := shush_loop h0 h1 hn nn m (A ++ [sgv s * ((c + 1) / 2)]) (nxt s) (by simp; omega) (by omega)
    rw [List.length_append, List.length_singleton, show ((A.length + 1 : Nat) : Int) = (A.length : Int) + 1 by omega] at ih
    rw [ih]
    simp [hsh]
def cz (v : Int) : Int := if v < 0 then 0 else if v > 33554432 then 33554432 else v
theorem cz_range (v : Int) : 0 ≤ cz v ∧ cz v ≤ 33554432 := by unfold cz; split <;> (try split) <;> omega
theorem clampz (v : Int) : Rc.clamp.F N v 0 33554432 = some (cz v) := by
  unfold Rc.clamp.F cz
  simp only [br_dec]
  rw [if_neg (by omega)]
  split
  · rfl
  · split <;> rfl
/-- So many numbers: none where there are too many. -/
def hn (n : Int) : Nat := if n < 1 then 0 else if n > 1000 then 0 else n.toNat
theorem shush_F (hN : 2000 ≤ N) (n size s : Int) : Rc.shush.F N n size s = some ((hsh ((cz size + 1) / 2) (hn n) s).2, (hsh ((cz size + 1) / 2) (hn n) s).1) := by
  unfold Rc.shush.F hn
  simp only [br_dec]
  by_cases c1 : n < 1
  · rw [if_pos c1, if_pos c1]; rfl
  rw [if_neg c1, if_neg c1]
  by_cases c2 : n > 1000
  · rw [if_pos c2, if_pos c2]; rfl
  rw [if_neg c2, if_neg c2, clampz, obind_of, chk_pos (by omega), List.length_replicate]
  have h := shush_loop (N := N) (cz_range size).1 (cz_range size).2 (n := n.toNat) (by omega) N n.toNat [] s (by simp) (by omega)
  rw [List.nil_append, List.nil_append, List.length_nil, show ((0 : Nat) : Int) = 0 from rfl] at h
  rw [h, obind_of]
end

end Go.Pl
/-
  Chapter 3 in plain words: the range decoder's register, and what rc's and ref3's functions come to.
  Conditions: none.
-/
namespace Go.Pl
open Go.Eng Go.Proofs

/-! ### The register -/
/-- The range, the value, the byte last read, how many bytes were asked for. -/
structure Q where
  rng : Int
  val : Int
  last : Int
  m : Nat

/-- A byte; behind the end all is nought. -/
def nb (b : List Int) (m : Nat) : Int := b.getD m 0

theorem nb_range {b : List Int} (h : Bytes b) (m : Nat) : 0 ≤ nb b m ∧ nb b m < 256 := h.get m

def Q.step (b : List Int) (q : Q) : Q := ⟨q.rng * 256, q.val * 256 + 255 - ((q.last * 256 + nb b q.m) / 2) % 256, nb b q.m, q.m + 1⟩

def Q.norm (b : List Int) : Nat → Q → Q
  | 0, q => q
  | n + 1, q => if q.rng ≤ 8388608 then Q.norm b n (q.step b) else q

/-- Between calls. -/
structure Q.Ok (q : Q) : Prop where
  r0 : 8388608 < q.rng
  r1 : q.rng ≤ 2147483648
  v0 : 0 ≤ q.val
  v1 : q.val < q.rng
  l0 : 0 ≤ q.last
  l1 : q.last < 256

/-- While it goes on. -/
structure Q.Pre (q : Q) : Prop where
  r0 : 1 ≤ q.rng
  r1 : q.rng ≤ 2147483648
  v0 : 0 ≤ q.val
  v1 : q.val < q.rng
  l0 : 0 ≤ q.last
  l1 : q.last < 256

theorem Q.Pre.step {b : List Int} {q : Q} (h : q.Pre) (hb : Bytes b) (hr : q.rng ≤ 8388608) : (q.step b).Pre := by
  obtain ⟨h1, h2, h3, h4, h5, h6⟩ := h
  obtain ⟨h7, h8⟩ := nb_range hb q.m
  exact ⟨by simp only [Q.step]; omega, by simp only [Q.step]; omega, by simp only [Q.step]; omega, by simp only [Q.step]; omega, h7, h8⟩

theorem Q.norm_ok {b : List Int} (hb : Bytes b) : ∀ (n : Nat) (q : Q), q.Pre → 8388608 < q.rng * 256 ^ n → (Q.norm b n q).Ok
  | 0, q, h, hn => ⟨by simpa [Q.norm] using hn, h.r1, h.v0, h.v1, h.l0, h.l1⟩
  | n + 1, q, h, hn => by
    simp only [Q.norm]
    split
    · rename_i hr
      refine Q.norm_ok hb n _ (h.step hb hr) ?_
      simp only [Q.step]
      rw [Int.pow_succ] at hn
      rw [Int.mul_assoc, Int.mul_comm 256]
      exact hn
    · rename_i hr
      exact ⟨by omega, h.r1, h.v0, h.v1, h.l0, h.l1⟩

/-- To go on. -/
def Q.on (b : List Int) (q : Q) : Q := Q.norm b 4 q

theorem Q.on_ok {b : List Int} (hb : Bytes b) {q : Q} (h : q.Pre) : (q.on b).Ok := Q.norm_ok hb 4 q h (by have := h.r0; omega)

theorem Q.norm_m (b : List Int) : ∀ (n : Nat) (q : Q), q.m ≤ (Q.norm b n q).m ∧ (Q.norm b n q).m ≤ q.m + n
  | 0, q => ⟨Nat.le_refl _, Nat.le_refl _⟩
  | n + 1, q => by
    simp only [Q.norm]
    split
    · have := Q.norm_m b n (q.step b)
      simp only [Q.step] at this ⊢
      omega
    · omega

theorem Q.on_m (b : List Int) (q : Q) : q.m ≤ (q.on b).m ∧ (q.on b).m ≤ q.m + 4 := Q.norm_m b 4 q

theorem Q.norm_stop (b : List Int) {q : Q} (h : 8388608 < q.rng) : ∀ n, Q.norm b n q = q
  | 0 => rfl
  | n + 1 => by simp only [Q.norm]; rw [if_neg (by omega)]

/-! ### What the code says in its words -/
theorem p8 : (2 : Int) ^ min (Int.toNat (8 : Int)) IntKind.u64.bits = 256 := rfl
theorem p1 : (2 : Int) ^ min (Int.toNat (1 : Int)) IntKind.u64.bits = 2 := rfl

theorem or8 {a c : Int} (ha : 0 ≤ a) (ha' : a < 72057594037927936) (hc : 0 ≤ c) (hc' : c < 256) : ((BitVec.ofInt 64 (a * 256) ||| BitVec.ofInt 64 c).toNat : Int) = a * 256 + c :=
  or_add (w := 64) (k := 8) ha (by show a * 256 < 18446744073709551616; omega) hc hc' (by omega)
theorem and255 {a : Int} (ha : 0 ≤ a) (ha' : a < 18446744073709551616) : ((BitVec.ofInt 64 a &&& BitVec.ofInt 64 255).toNat : Int) = a % 256 :=
  and_mask (w := 64) (k := 8) ha ha' rfl (by omega)
theorem and31 {a : Int} (ha : 0 ≤ a) (ha' : a < 18446744073709551616) : ((BitVec.ofInt 64 a &&& BitVec.ofInt 64 2147483647).toNat : Int) = a % 2147483648 :=
  and_mask (w := 64) (k := 31) ha ha' rfl (by omega)

/-- The front, of m bytes that were asked for. -/
def fr (b : List Int) (m : Nat) : Int := ((min m b.length : Nat) : Int)

theorem next_F {N : Nat} {rng val last back window waiting count : Int} {bad : Bool} {b : List Int} (hb : Bytes b) (hl : b.length < 140737488351233) (m : Nat) :
    Rc.next.F N rng val last (fr b m) back window waiting count bad b = some (nb b m, fr b (m + 1)) := by
  unfold Rc.next.F fr
  simp only [br_dec, chkI_same, chkB_same, chkL_same]
  by_cases h : m < b.length
  · have e1 : min m b.length = m := by omega
    have e2 : min (m + 1) b.length = m + 1 := by omega
    rw [e1, e2, if_neg (by omega), i64 (x := (m : Int) + 1) (by omega) (by omega), i64 (by omega) (by omega), chk_pos (by omega)]
    have e3 : ((m : Int) + 1 - 1).toNat = m := by omega
    obtain ⟨h1, h2⟩ := nb_range hb m
    unfold nb at h1 h2 ⊢
    rw [e3, u64 h1 (by omega)]
    rfl
  · have e1 : min m b.length = b.length := by omega
    have e2 : min (m + 1) b.length = b.length := by omega
    rw [e1, e2, if_pos (by omega)]
    unfold nb
    rw [getD_out (by omega)]

/-- A step's value, in the code's words. -/
theorem step_val {val last x : Int} (h0 : 0 ≤ val) (h1 : val < 8388608) (l0 : 0 ≤ last) (l1 : last < 256) (x0 : 0 ≤ x) (x1 : x < 256) :
    IntKind.u64.wrap ↑(BitVec.ofInt IntKind.u64.bits (IntKind.u64.wrap (IntKind.u64.wrap (IntKind.u64.wrap (val * 256) + 255) - IntKind.u64.wrap ↑(BitVec.ofInt IntKind.u64.bits ((IntKind.u64.wrap ↑(BitVec.ofInt IntKind.u64.bits (IntKind.u64.wrap (last * 256)) ||| BitVec.ofInt IntKind.u64.bits x).toNat).fdiv 2) &&& BitVec.ofInt IntKind.u64.bits 255).toNat)) &&& BitVec.ofInt IntKind.u64.bits 2147483647).toNat =
      val * 256 + 255 - ((last * 256 + x) / 2) % 256 := by
  rw [bits_u64, u64 (x := last * 256) (by omega) (by omega), or8 l0 (by omega) x0 x1, u64 (x := last * 256 + x) (by omega) (by omega), fdiv_ediv (by omega), and255 (by omega) (by omega),
    u64 (x := (last * 256 + x) / 2 % 256) (by omega) (by omega), u64 (x := val * 256) (by omega) (by omega), u64 (x := val * 256 + 255) (by omega) (by omega), u64 (x := val * 256 + 255 - _) (by omega) (by omega),
    and31 (by omega) (by omega), u64 (by omega) (by omega)]
  omega

theorem norm_loop {N : Nat} {back window waiting : Int} {bad : Bool} {b : List Int} (hb : Bytes b) (hl : b.length < 140737488351233) :
    ∀ (nn n : Nat) (q : Q) (count : Int), q.Pre → 8388608 < q.rng * 256 ^ n → 0 ≤ count → count + 8 * n < 2199023255552 → n < nn →
      Rc.norm.loop0 N nn back window waiting bad b q.rng q.val q.last (fr b q.m) count =
        some ((Q.norm b n q).rng, (Q.norm b n q).val, (Q.norm b n q).last, fr b (Q.norm b n q).m, count + 8 * (((Q.norm b n q).m - q.m : Nat) : Int))
  | 0, n, q, count, h, hn, hc0, hc1, h0 => by omega
  | nn + 1, n, q, count, h, hn, hc0, hc1, h0 => by
    unfold Rc.norm.loop0
    simp only [br_dec, chkI_same, chkB_same, chkL_same, next_F hb hl, obind_of, p8, p1]
    by_cases hr : q.rng ≤ 8388608
    · rw [if_pos hr]
      cases n with
      | zero => simp at hn; omega
      | succ n =>
        have hs := h.step hb hr
        have ih := norm_loop (N := N) (back := back) (window := window) (waiting := waiting) (bad := bad) hb hl nn n (q.step b) (count + 8) hs (by
          simp only [Q.step]
          rw [Int.pow_succ] at hn
          rw [Int.mul_assoc, Int.mul_comm 256]
          exact hn) (by omega) (by omega) (by omega)
        obtain ⟨h1, h2, h3, h4, h5, h6⟩ := h
        obtain ⟨h7, h8⟩ := nb_range hb q.m
        have hm := Q.norm_m b n (q.step b)
        rw [step_val h3 (by omega) h5 h6 h7 h8, u64 (by omega) (by omega), i64 (by omega) (by omega)]
        simp only [Q.step] at ih hm ⊢
        rw [ih]
        simp only [Q.norm, if_pos hr, Q.step]
        congr 5
        omega
    · rw [if_neg hr]
      have hs := Q.norm_stop b (q := q) (by omega) n
      rw [hs]
      simp

/-- rc's normalise. -/
theorem norm_F {N : Nat} {back window waiting count : Int} {bad : Bool} {b : List Int} (hb : Bytes b) (hl : b.length < 140737488351233) {q : Q} (h : q.Pre) (hc0 : 0 ≤ count) (hc1 : count < 1099511627776) (hN : 8 ≤ N) :
    Rc.norm.F N q.rng q.val q.last (fr b q.m) back window waiting count bad b =
      some ((q.on b).rng, (q.on b).val, (q.on b).last, fr b (q.on b).m, count + 8 * (((q.on b).m - q.m : Nat) : Int)) := by
  unfold Rc.norm.F
  rw [norm_loop hb hl N 4 q count h (by have := h.r0; omega) hc0 (by omega) (by omega)]
  simp only [obind_of, chkI_same, chkB_same, chkL_same]
  rfl
end Go.Pl
/-
  Chapter 3 in plain words: to choose, to take, tables, symbols, flags.
  Conditions: none.
-/
namespace Go.Pl
open Go.Eng Go.Proofs

/-! ### Choosing and taking -/
def Q.ch (q : Q) (ft : Int) : Int := ft - min (q.val / (q.rng / ft) + 1) ft
theorem e_facts {r ft : Int} (h0 : 8388608 < r) (f0 : 1 ≤ ft) (f1 : ft ≤ 65536) : 1 ≤ r / ft ∧ r / ft * ft ≤ r ∧ r / ft ≤ r := by
  have h1 := Int.ediv_mul_le r (show ft ≠ 0 by omega)
  have h2 : 1 ≤ r / ft := by
    rw [Int.le_ediv_iff_mul_le (by omega)]
    omega
  refine ⟨h2, h1, ?_⟩
  have : r / ft * 1 ≤ r / ft * ft := Int.mul_le_mul_of_nonneg_left f0 (by omega)
  omega

theorem d_facts {v e : Int} (h0 : 0 ≤ v) (he : 1 ≤ e) : 0 ≤ v / e ∧ v / e * e ≤ v ∧ v < (v / e + 1) * e ∧ v / e ≤ v := by
  have h1 := Int.ediv_mul_le v (show e ≠ 0 by omega)
  have h2 := Int.lt_ediv_add_one_mul_self v (show 0 < e by omega)
  have h3 : 0 ≤ v / e := Int.ediv_nonneg h0 (by omega)
  refine ⟨h3, h1, h2, ?_⟩
  have : v / e * 1 ≤ v / e * e := Int.mul_le_mul_of_nonneg_left he h3
  omega

/-- What is taken lies so. -/
structure Takes (q : Q) (fl fh ft : Int) : Prop where
  f0 : 1 ≤ ft
  f1 : ft ≤ 65536
  a : 0 ≤ fl
  b : fl ≤ q.ch ft
  c : q.ch ft < fh
  d : fh ≤ ft

theorem Takes.bounds {q : Q} (h : q.Ok) {fl fh ft : Int} (t : Takes q fl fh ft) :
    0 ≤ q.rng / ft * (ft - fh) ∧ q.rng / ft * (ft - fh) ≤ q.val ∧ q.rng / ft * (ft - fh) ≤ q.rng ∧ 1 ≤ q.rng / ft * (fh - fl) ∧ q.rng / ft * (fh - fl) ≤ q.rng ∧ (fl > 0 → q.val - q.rng / ft * (ft - fh) < q.rng / ft * (fh - fl)) := by
  obtain ⟨f0, f1, ha, hb, hc, hd⟩ := t
  obtain ⟨e0, e1, e2⟩ := e_facts h.r0 f0 f1
  obtain ⟨d0, d1, d2, d3⟩ := d_facts h.v0 e0
  unfold Q.ch at hb hc
  generalize hE : q.rng / ft = E at *
  generalize hD : q.val / E = D at *
  have hv1 := h.v1
  have k1 : 0 ≤ E * (ft - fh) := Int.mul_nonneg (by omega) (by omega)
  have k2 : E * (ft - fh) ≤ E * D := Int.mul_le_mul_of_nonneg_left (by omega) (by omega)
  have k3 : E * D = D * E := Int.mul_comm _ _
  have k4 : E * 1 ≤ E * (fh - fl) := Int.mul_le_mul_of_nonneg_left (by omega) (by omega)
  have k5 : E * (fh - fl) ≤ E * ft := Int.mul_le_mul_of_nonneg_left (by omega) (by omega)
  have k6 : E * (fh - fl) = E * (ft - fl) - E * (ft - fh) := by rw [← Int.mul_sub]; congr 1; omega
  refine ⟨k1, by omega, by omega, by omega, by omega, fun hfl => ?_⟩
  have k7 : (D + 1) * E ≤ E * (ft - fl) := by
    rw [Int.mul_comm]
    exact Int.mul_le_mul_of_nonneg_left (by omega) (by omega)
  omega

section
variable {N : Nat} {front back window waiting count : Int} {bad : Bool} {b : List Int}

end

/-! ### The document's reader -/
section
variable {N : Nat} {front back wait waiting count eq : Int} {bad : Bool} {b : List Int}

end

/-! ### Tables -/
structure GoodT (t : List Int) : Prop where
  n0 : 1 ≤ t.length
  n1 : t.length ≤ 256
  last : t.getD (t.length - 1) 0 = 0
  first : t.getD 0 0 < 256
  down : ∀ k, 1 ≤ k → k < t.length → t.getD k 0 < t.getD (k - 1) 0

theorem GoodT.le {t : List Int} (h : GoodT t) : ∀ (d k : Nat), k + d < t.length → t.getD (k + d) 0 + d ≤ t.getD k 0
  | 0, k, _ => by simp
  | d + 1, k, hk => by
    have h1 := h.le d k (by omega)
    have h2 := h.down (k + (d + 1)) (by omega) hk
    rw [show k + (d + 1) - 1 = k + d by omega] at h2
    omega

theorem GoodT.range {t : List Int} (h : GoodT t) {k : Nat} (hk : k < t.length) : 0 ≤ t.getD k 0 ∧ t.getD k 0 < 256 := by
  have h1 := h.le (t.length - 1 - k) k (by omega)
  have h2 := h.le k 0 (by omega)
  rw [show k + (t.length - 1 - k) = t.length - 1 by omega, h.last] at h1
  rw [Nat.zero_add] at h2
  have := h.first
  omega

/-! ### Symbols -/
section
variable {N : Nat} {back window waiting count : Int} {bad : Bool} {b : List Int}

end
section
variable {N : Nat} {back wait waiting count eq : Int} {bad : Bool} {b : List Int}

end
end Go.Pl
/-
  Chapter 3 in plain words: flags, bits from the end.
  Conditions: none.
-/
namespace Go.Pl
open Go.Eng Go.Proofs

theorem p2le {a b : Nat} (h : a ≤ b) : (2 : Int) ^ a ≤ 2 ^ b := by exact_mod_cast Nat.pow_le_pow_right (by omega) h
theorem p2pos (a : Nat) : (0 : Int) < 2 ^ a := by exact_mod_cast Nat.two_pow_pos a
/-! ### Flags -/
def Q.fs (q : Q) (n : Int) : Int := q.rng / 2 ^ n.toNat
def Q.f0 (q : Q) (n : Int) : Q := if q.val < q.fs n then ⟨q.fs n, q.val, q.last, q.m⟩ else ⟨q.rng - q.fs n, q.val - q.fs n, q.last, q.m⟩
def Q.fl (b : List Int) (q : Q) (n : Int) : Q := (q.f0 n).on b

section
variable {N : Nat} {back window waiting count : Int} {bad : Bool} {b : List Int}

end

/-! ### Bits from the end -/
structure W where
  win : Int
  wai : Nat
  k : Nat

/-- The byte number k from the end; behind the first one all is nought. -/
def eb (b : List Int) (k : Nat) : Int := if k < b.length then b.getD (b.length - 1 - k) 0 else 0

theorem eb_range {b : List Int} (h : Bytes b) (k : Nat) : 0 ≤ eb b k ∧ eb b k < 256 := by
  unfold eb
  split
  · exact h.get _
  · omega

def W.step (b : List Int) (w : W) : W := ⟨w.win + eb b w.k * 2 ^ w.wai, w.wai + 8, w.k + 1⟩
def W.fill (b : List Int) (n : Nat) : Nat → W → W
  | 0, w => w
  | f + 1, w => if w.wai < n then W.fill b n f (w.step b) else w

structure W.Ok (w : W) : Prop where
  a : 0 ≤ w.win
  b : w.win < 2 ^ w.wai
  c : w.wai ≤ 31

theorem W.Ok.step {b : List Int} (hb : Bytes b) {w : W} (h : w.Ok) (hw : w.wai < 24) : (w.step b).Ok := by
  obtain ⟨h1, h2, h3⟩ := h
  obtain ⟨h4, h5⟩ := eb_range hb w.k
  have h6 := p2pos w.wai
  have h7 : 0 ≤ eb b w.k * 2 ^ w.wai := Int.mul_nonneg h4 (by omega)
  have h8 : eb b w.k * 2 ^ w.wai ≤ 255 * 2 ^ w.wai := Int.mul_le_mul_of_nonneg_right (by omega) (by omega)
  refine ⟨by simp only [W.step]; omega, ?_, by simp only [W.step]; omega⟩
  simp only [W.step]
  rw [Int.pow_add]
  omega

theorem W.fill_n {b : List Int} {n : Nat} : ∀ (f : Nat) (w : W), n ≤ w.wai + 8 * f → n ≤ (W.fill b n f w).wai
  | 0, w, h => by simpa [W.fill] using h
  | f + 1, w, h => by
    simp only [W.fill]
    split
    · exact W.fill_n f _ (by simp only [W.step]; omega)
    · omega

def W.at (b : List Int) (w : W) (n : Nat) : W := W.fill b n 4 w
def W.val (b : List Int) (w : W) (n : Nat) : Int := (w.at b n).win % 2 ^ n
def W.next (b : List Int) (w : W) (n : Nat) : W := ⟨(w.at b n).win / 2 ^ n, (w.at b n).wai - n, (w.at b n).k⟩

section
variable {N : Nat} {rng val last front count : Int} {bad : Bool} {b : List Int}

end
end Go.Pl
/-
  Layer 20: both square roots (as in layer 19).
  Conditions: none.
-/
namespace Go.Pl
open Go.Eng Go.Proofs

/-! ### Roots -/
structure Root (r a : Int) : Prop where
  p : 0 ≤ r
  l : r * r ≤ a
  u : a < (r + 1) * (r + 1)
theorem Root.le {r s a b : Int} (h : Root r a) (g : Root s b) (hab : a ≤ b) : r ≤ s := by
  rcases Int.lt_or_le s r with c | c
  · have h1 := h.l
    have h2 := g.u
    have h3 : (s + 1) * (s + 1) ≤ r * r := Int.mul_le_mul (by omega) (by omega) (by have := g.p; omega) h.p
    omega
  · exact c
theorem Root.eq {r s a : Int} (h : Root r a) (g : Root s a) : r = s := by
  have := h.le g (Int.le_refl _)
  have := g.le h (Int.le_refl _)
  omega

section
variable {N : Nat}
end
end Go.Pl
/-
  Layer 20: pulses are filled by both books alike.
  Conditions: none.
-/
namespace Go.Pl
open Go.Eng Go.Proofs

section
variable {N : Nat}
end
end Go.Pl
/-
  Layer 20's statements stand here in the place of layer 17's.
  Conditions: none.
-/
/-
  Layer 17: how many vectors there are: the program's rows and tables, and its plain twin's, are one.
  Conditions: none.
-/
namespace Go.Pl
open Go.Eng Go.Proofs
set_option maxRecDepth 100000

/-! ### Counts -/
def cstep (f : Nat → Int) : Nat → Int
  | 0 => 1
  | k + 1 => min (f (k + 1) + cstep f k + f k) 4294967296
def cnt : Nat → Nat → Int
  | 0 => fun k => if k = 0 then 1 else 0
  | n + 1 => cstep (cnt n)
def Small (f : Nat → Int) : Prop := ∀ i, 0 ≤ f i ∧ f i ≤ 4294967296
theorem cstep_small {f : Nat → Int} (h : Small f) : Small (cstep f)
  | 0 => by simp only [cstep]; omega
  | k + 1 => by
    have := cstep_small h k
    have := h k
    have := h (k + 1)
    simp only [cstep]
    omega
theorem cnt_small : ∀ n, Small (cnt n)
  | 0 => fun k => by simp only [cnt]; split <;> omega
  | n + 1 => cstep_small (cnt_small n)
theorem cnt_succ (n k : Nat) : cnt (n + 1) (k + 1) = min (cnt n (k + 1) + cnt (n + 1) k + cnt n k) 4294967296 := rfl
theorem cnt_zero (n : Nat) : cnt n 0 = 1 := by cases n <;> rfl

/-! ### Lists that are tables -/
def tabL (f : Nat → Int) (k : Nat) : List Int := (List.range (k + 1)).map f
theorem tabL_len (f : Nat → Int) (k : Nat) : (tabL f k).length = k + 1 := by simp [tabL]
theorem tabL_get (f : Nat → Int) {k i : Nat} (h : i ≤ k) : (tabL f k).getD i 0 = f i := by
  simp [tabL, List.getD_eq_getElem?_getD, List.getElem?_map, List.getElem?_range, show i < k + 1 by omega]
theorem tabL_ext {f : Nat → Int} {k : Nat} {l : List Int} (hl : l.length = k + 1) (h : ∀ i, i ≤ k → l.getD i 0 = f i) : l = tabL f k := by
  apply List.ext_getElem?
  intro i
  rcases Nat.lt_or_ge i (k + 1) with c | c
  · have h1 := h i (by omega)
    have h2 := tabL_get f (k := k) (i := i) (by omega)
    rw [List.getD_eq_getElem?_getD, List.getElem?_eq_getElem (by omega)] at h1
    rw [List.getD_eq_getElem?_getD, List.getElem?_eq_getElem (by rw [tabL_len]; omega)] at h2
    rw [List.getElem?_eq_getElem (by omega), List.getElem?_eq_getElem (by rw [tabL_len]; omega)]
    simp only [Option.getD_some] at h1 h2
    rw [h1, h2]
  · rw [List.getElem?_eq_none (by omega), List.getElem?_eq_none (by rw [tabL_len]; omega)]
theorem getD_set (l : List Int) (j : Nat) (v : Int) (i : Nat) : (l.set j v).getD i 0 = if i = j ∧ j < l.length then v else l.getD i 0 := by
  rw [List.getD_eq_getElem?_getD, List.getElem?_set, List.getD_eq_getElem?_getD]
  by_cases h : j = i
  · subst h
    rw [if_pos rfl]
    by_cases c : j < l.length
    · rw [if_pos c, if_pos ⟨rfl, c⟩]; rfl
    · rw [if_neg c, if_neg (fun h => c h.2), List.getElem?_eq_none (by omega)]
  · rw [if_neg h, if_neg (fun hh => h hh.1.symm)]
theorem start_row (k : Nat) : (List.replicate (k + 1) (0 : Int)).set 0 1 = tabL (cnt 0) k := by
  refine tabL_ext (by simp) fun i hi => ?_
  rw [getD_set]
  simp only [List.length_replicate, cnt]
  by_cases c : i = 0
  · rw [if_pos ⟨c, by omega⟩, if_pos c]
  · rw [if_neg (fun h => c h.1), if_neg c]
    simp [List.getD_eq_getElem?_getD, List.getElem?_replicate]
    split <;> rfl

section
variable {N : Nat}
theorem prow_in {f : Nat → Int} (hf : Small f) {k : Nat} (hk : k ≤ 1000) : ∀ (nn j : Nat) (l : List Int), 1 ≤ j → j ≤ k + 1 → l.length = k + 1 → (∀ i, i < j → l.getD i 0 = cstep f i) → (∀ i, j ≤ i → i ≤ k → l.getD i 0 = f i) → k + 1 - j < nn →
    Rc.prow.loop7 N nn k (f (j - 1)) j l = some (tabL (cstep f) k)
  | 0, j, l, _, _, _, _, _, h => by omega
  | nn + 1, j, l, j1, j2, hl, ha, hb, h => by
    unfold Rc.prow.loop7
    simp only [br_dec, chkI_same]
    by_cases c : j ≤ k
    · have h1 := hb j (Nat.le_refl _) c
      have h2 := ha (j - 1) (by omega)
      have s1 := hf j
      have s2 := cstep_small hf (j - 1)
      have s3 := hf (j - 1)
      have e1 : IntKind.i64.wrap ((j : Int) - 1) = ((j - 1 : Nat) : Int) := by rw [i64 (by omega) (by omega)]; omega
      rw [if_pos (by omega), chk_pos (by omega), chk_pos (by omega), e1, chk_pos (by omega), chk_pos (by omega), Int.toNat_natCast, Int.toNat_natCast, h1, h2]
      rw [i64 (x := f j + cstep f (j - 1)) (by omega) (by omega), i64 (x := f j + cstep f (j - 1) + f (j - 1)) (by omega) (by omega), i64 (x := (j : Int) + 1) (by omega) (by omega)]
      have hv : (if (4294967296 : Int) < f j + cstep f (j - 1) + f (j - 1) then 4294967296 else f j + cstep f (j - 1) + f (j - 1)) = cstep f j := by
        obtain ⟨m, rfl⟩ : ∃ m, j = m + 1 := ⟨j - 1, by omega⟩
        simp only [cstep, Nat.add_sub_cancel]
        split <;> omega
      rw [hv]
      have ih := prow_in hf hk nn (j + 1) (l.set j (cstep f j)) (by omega) (by omega) (by rw [List.length_set]; exact hl) (fun i hi => by
        rw [getD_set]
        by_cases e : i = j
        · rw [if_pos ⟨e, by omega⟩, e]
        · rw [if_neg (fun h => e h.1)]; exact ha i (by omega)) (fun i hi hi2 => by
        rw [getD_set, if_neg (fun h => by omega)]; exact hb i (by omega) hi2) (by omega)
      exact ih
    · rw [if_neg (by omega)]
      obtain rfl : j = k + 1 := by omega
      exact congrArg some (tabL_ext hl fun i hi => ha i (by omega))

theorem prow_out {n k : Nat} (hk : k ≤ 1000) (hN : k + 2 ≤ N) : ∀ (nn i : Nat), i ≤ n → n - i < nn → n < 1000 → Rc.prow.loop4 N nn k n i (tabL (cnt i) k) = some (tabL (cnt n) k)
  | 0, i, _, h, _ => by omega
  | nn + 1, i, hi, h, hn => by
    unfold Rc.prow.loop4
    simp only [br_dec, chkI_same]
    by_cases c : i < n
    · have := prow_in (N := N) (cnt_small i) hk N 1 (tabL (cnt i) k) (by omega) (by omega) (tabL_len _ _) (fun m hm => by
        obtain rfl : m = 0 := by omega
        rw [tabL_get _ (by omega), cnt_zero]; rfl) (fun m _ hm => tabL_get _ hm) (by omega)
      rw [show cnt i (1 - 1) = 1 from cnt_zero i, show ((1 : Nat) : Int) = 1 from rfl] at this
      rw [if_pos (by omega), this, obind_of, i64 (by omega) (by omega)]
      exact prow_out hk hN nn (i + 1) (by omega) (by omega) hn
    · rw [if_neg (by omega)]
      obtain rfl : i = n := by omega
      rfl

theorem prow_F {n k : Nat} (hk : k ≤ 1000) (hn : n < 1000) (hN : 3000 ≤ N) : Rc.prow.F N n k = some (tabL (cnt n) k) := by
  unfold Rc.prow.F
  rw [i64 (x := (k : Int) + 1) (by omega) (by omega), chk_pos (by omega), show ((k : Int) + 1).toNat = k + 1 by omega, chk_pos (by simp), show Int.toNat (0 : Int) = 0 from rfl, start_row]
  have := prow_out (N := N) (n := n) hk (by omega) N 0 (by omega) (by omega) hn
  rw [show ((0 : Nat) : Int) = 0 from rfl] at this
  rw [this, obind_of]

/-! ### The twin's -/
/-- How many vectors there are, any numbers. -/
def cntA (n k : Int) : Int := if 1 ≤ n ∧ n ≤ 16 ∧ 0 ≤ k ∧ k ≤ 64 then cnt n.toNat k.toNat else 0
theorem pmay_F (n : Int) : Rc.pmay.F N n = some (decide (1 ≤ n ∧ n ≤ 16)) := by
  unfold Rc.pmay.F
  rw [br_dec]
  by_cases c : n ≥ 1
  · rw [if_pos c]
    congr 1
    by_cases d : n ≤ 16
    · rw [decide_eq_true d, decide_eq_true ⟨c, d⟩]
    · rw [decide_eq_false d, decide_eq_false fun h => d h.2]
  · rw [if_neg c, decide_eq_false fun h => c h.1]

theorem pcount_F (n k : Int) (hN : 3000 ≤ N) : Rc.pcount.F N n k = some (cntA n k) := by
  unfold Rc.pcount.F cntA
  rw [pmay_F, obind_of]
  simp only [br_not_dec, br_dec]
  by_cases c1 : ¬ (1 ≤ n ∧ n ≤ 16)
  · rw [if_neg c1, if_neg (by omega)]
  have c1 : 1 ≤ n ∧ n ≤ 16 := by omega
  by_cases c3 : k < 0
  · rw [if_pos c1, if_pos c3, if_neg (by omega)]
  by_cases c4 : k > 64
  · rw [if_pos c1, if_neg c3, if_pos c4, if_neg (by omega)]
  obtain ⟨m, rfl⟩ := Int.eq_ofNat_of_zero_le (show 0 ≤ n by omega)
  obtain ⟨j, rfl⟩ := Int.eq_ofNat_of_zero_le (show 0 ≤ k by omega)
  rw [if_pos c1, if_neg c3, if_neg c4, if_pos (by omega), prow_F (by omega) (by omega) hN, obind_of, chk_pos (by rw [tabL_len]; omega), Int.toNat_natCast, Int.toNat_natCast, tabL_get _ (Nat.le_refl _)]

/-! ### The most pulses -/
def mostT (n : Int) : Int := if 1 ≤ n ∧ n ≤ 16 then [(64 : Int), 64, 64, 64, 64, 64, 53, 36, 27, 22, 18, 16, 15, 13, 12, 12].getD (n - 1).toNat 0 else 0
theorem mostT_tab : ∀ i : Fin 16, 12 ≤ [(64 : Int), 64, 64, 64, 64, 64, 53, 36, 27, 22, 18, 16, 15, 13, 12, 12].getD i.val 0 ∧ [(64 : Int), 64, 64, 64, 64, 64, 53, 36, 27, 22, 18, 16, 15, 13, 12, 12].getD i.val 0 ≤ 64 := by decide +kernel
theorem mostT_range (n : Int) : 0 ≤ mostT n ∧ mostT n ≤ 64 := by
  unfold mostT
  split
  · have := mostT_tab ⟨(n - 1).toNat, by omega⟩; simp only at this; omega
  · omega
/-- A row by counting through. -/
def nextR : Int → Int → List Int → List Int
  | _, _, [] => []
  | a, b, x :: r => min (x + a + b) 4294967296 :: nextR (min (x + a + b) 4294967296) x r
def rowC : Nat → List Int
  | 0 => 1 :: List.replicate 64 0
  | n + 1 => match rowC n with
    | [] => []
    | x :: r => 1 :: nextR 1 x r

theorem nextR_len : ∀ (a b : Int) (l : List Int), (nextR a b l).length = l.length
  | _, _, [] => rfl
  | a, b, x :: r => by simp only [nextR, List.length_cons, nextR_len _ _ r]
theorem nextR_get {f : Nat → Int} : ∀ (l : List Int) (j : Nat), (∀ i, i < l.length → l.getD i 0 = f (j + 1 + i)) → ∀ i, i < l.length → (nextR (cstep f j) (f j) l).getD i 0 = cstep f (j + 1 + i)
  | [], j, _, i, h => by simp at h
  | x :: r, j, h, i, hi => by
    have hx : x = f (j + 1) := by have := h 0 (by simp); simpa using this
    have hv : min (x + cstep f j + f j) 4294967296 = cstep f (j + 1) := by rw [hx]; rfl
    simp only [nextR, hv]
    cases i with
    | zero => rfl
    | succ i =>
      have := nextR_get (f := f) r (j + 1) (fun m hm => by
        have := h (m + 1) (by simp; omega)
        rw [show j + 1 + (m + 1) = j + 1 + 1 + m by omega] at this
        simpa using this) i (by simpa using hi)
      rw [hx, show j + 1 + (i + 1) = j + 1 + 1 + i by omega]
      simpa using this
theorem row0 : ∀ i : Fin 65, (rowC 0).getD i.val 0 = cnt 0 i.val := by decide +kernel
theorem rowC_get : ∀ n, (rowC n).length = 65 ∧ ∀ i, i < 65 → (rowC n).getD i 0 = cnt n i
  | 0 => ⟨by decide +kernel, fun i hi => row0 ⟨i, hi⟩⟩
  | n + 1 => by
    obtain ⟨h1, h2⟩ := rowC_get n
    cases hr : rowC n with
    | nil => rw [hr] at h1; simp at h1
    | cons x r =>
      rw [hr] at h1 h2
      have hx : x = cnt n 0 := by have := h2 0 (by omega); simpa using this
      simp only [rowC, hr]
      refine ⟨by simp only [List.length_cons, nextR_len] at h1 ⊢; exact h1, fun i hi => ?_⟩
      cases i with
      | zero => rfl
      | succ i =>
        have := nextR_get (f := cnt n) r 0 (fun m hm => by
          have := h2 (m + 1) (by simp only [List.length_cons] at h1; omega)
          rw [show 0 + 1 + m = m + 1 by omega]
          simpa using this) i (by simp only [List.length_cons] at h1; omega)
        rw [← hx, show 0 + 1 + i = i + 1 by omega] at this
        show (nextR 1 x r).getD i 0 = cnt (n + 1) (i + 1)
        exact this
theorem rowC_tab (n : Nat) : tabL (cnt n) 64 = rowC n := by
  obtain ⟨h1, h2⟩ := rowC_get n
  exact (tabL_ext h1 fun i hi => h2 i (by omega)).symm

/-- Where a row stays below 2^32. -/
def topOf (l : List Int) : Nat → Nat
  | 0 => 0
  | k + 1 => if l.getD (k + 1) 0 ≥ 4294967296 then topOf l k else k + 1
theorem pmost_loop {l : List Int} (hl : l.length = 65) (h0 : l.getD 0 0 < 4294967296) : ∀ (nn k : Nat), k ≤ 64 → k < nn → Rc.pmost.loop5 N nn l k = some ((topOf l k : Nat) : Int)
  | 0, k, _, h => by omega
  | nn + 1, k, hk, h => by
    unfold Rc.pmost.loop5
    simp only [br_dec, chkL_same]
    rw [chk_pos (by omega), Int.toNat_natCast]
    cases k with
    | zero => rw [if_neg (by omega)]; rfl
    | succ k =>
      simp only [topOf]
      by_cases c : l.getD (k + 1) 0 ≥ 4294967296
      · rw [if_pos c, if_pos c, i64 (by omega) (by omega), show ((k + 1 : Nat) : Int) - 1 = (k : Int) by omega]
        exact pmost_loop hl h0 nn k (by omega) (by omega)
      · rw [if_neg c, if_neg c]
theorem tops : ∀ i : Fin 16, ((topOf (rowC (i.val + 1)) 64 : Nat) : Int) = mostT ((i.val : Int) + 1) := by decide +kernel
theorem pmost_F (n : Int) (hN : 3000 ≤ N) : Rc.pmost.F N n = some (mostT n) := by
  unfold Rc.pmost.F
  rw [pmay_F, obind_of]
  simp only [br_not_dec]
  by_cases c : 1 ≤ n ∧ n ≤ 16
  · obtain ⟨m, rfl⟩ := Int.eq_ofNat_of_zero_le (show 0 ≤ n by omega)
    have h := prow_F (N := N) (n := m) (k := 64) (by omega) (by omega) hN
    rw [show ((64 : Nat) : Int) = 64 from rfl] at h
    have hl := pmost_loop (N := N) (l := tabL (cnt m) 64) (tabL_len _ _) (by rw [tabL_get _ (by omega), cnt_zero]; omega) N 64 (by omega) (by omega)
    rw [show ((64 : Nat) : Int) = 64 from rfl] at hl
    have ht := tops ⟨m - 1, by omega⟩
    simp only at ht
    rw [show m - 1 + 1 = m by omega, show (((m - 1 : Nat) : Int) + 1) = (m : Int) by omega, ← rowC_tab] at ht
    rw [if_pos c, h, obind_of, hl, obind_of, ht]
  · rw [if_neg c]
    unfold mostT
    rw [if_neg c]

theorem cnt_pos (n : Nat) : ∀ k, 1 ≤ cnt (n + 1) k
  | 0 => by rw [cnt_zero]; omega
  | k + 1 => by
    have := cnt_pos n k
    have := cnt_small n k
    have := cnt_small n (k + 1)
    rw [cnt_succ]; omega

end
end Go.Pl
/-
  Layer 17: vectors in order: places and vectors undo one another. Nothing of the program here.
  Conditions: none.
-/
namespace Go.Pl
open Go.Eng Go.Proofs

/-! ### Where nothing is capped -/
/-- How many stand with a first number of that size. -/
def both (n k s : Nat) : Int := if s = 0 then cnt n k else 2 * cnt n (k - s)
/-- .. with a first number of a lesser size. -/
def bs (n k : Nat) : Nat → Int
  | 0 => 0
  | s + 1 => bs n k s + both n k s
def sm (n : Nat) : Nat → Int
  | 0 => 0
  | k + 1 => sm n k + cnt n k

/-! ### Vectors -/
def ix : List Int → Nat → Int
  | [], _ => 0
  | y :: r, k => bs r.length k y.natAbs + (if y < 0 then cnt r.length (k - y.natAbs) else 0) + ix r (k - y.natAbs)

/-! ### The first one, the last one -/
/-! ### Order -/
def rk (v : Int) : Int := if v > 0 then 2 * v - 1 else -2 * v
end Go.Pl
/-
  Layer 17: the program's tables, vectors and places, and its plain twin's.
  Conditions: none.
-/
namespace Go.Pl
open Go.Eng Go.Proofs

section
variable {N : Nat}
/-! ### The program's vectors -/
/-- May such a place be? -/
def VOk (n k i : Int) : Prop := 1 ≤ n ∧ n ≤ 16 ∧ 0 ≤ k ∧ k ≤ mostT n ∧ 0 ≤ i ∧ i < cntA n k
instance (n k i : Int) : Decidable (VOk n k i) := by unfold VOk; exact inferInstance
/-! ### The twin's vectors -/
/-! ### The same lists -/
end
end Go.Pl
/-
  Layer 17: places of vectors by the program and its twin; the statements PvqNumbers, PvqOrder, PvqFirst.
  Conditions: none.
-/
namespace Go.Pl
open Go.Eng Go.Proofs
set_option maxRecDepth 100000

theorem get_at (pre : List Int) (x : Int) (r : List Int) : (pre ++ x :: r).getD pre.length 0 = x := by simp [List.getD_eq_getElem?_getD]

section
variable {N : Nat}
/-! ### The twin's -/
/-! ### Order -/
/-! ### The first and the last -/
end
end Go.Pl
/-
  Layer 20: pulses are filled by both books alike; the sum of squares is near.
  Conditions: none.
-/
namespace Go.Pl
open Go.Eng Go.Proofs

/-- The root of a number, rounded down. -/
noncomputable def rt (a : Int) : Int := Classical.epsilon fun r => Root r a
def fl (size r t : Int) (y : List Int) : List Int := y.map fun v => size * v * t / r
section
variable {N : Nat}
end

/-! ### The sum of squares -/
end Go.Pl
/-
  Layer 20: the sum of squares of what is filled; ShapeFills.
  Conditions: none.
-/
namespace Go.Pl
open Go.Eng Go.Proofs

section
variable {N : Nat}
end

end Go.Pl
/-
  Plain words: how many bits a number has; the code's two ways to count them.
  Conditions: none.
-/
namespace Go.Pl
open Go.Eng Go.Proofs

/-- How many bits a number has. -/
def bl (x : Int) : Int := if x ≤ 0 then 0 else (x.toNat.log2 : Int) + 1

theorem bl_of {x : Int} {k : Nat} (h0 : 2 ^ k ≤ x) (h1 : x < 2 ^ (k + 1)) : bl x = k + 1 := by
  have hp := p2pos k
  obtain ⟨n, rfl⟩ := Int.eq_ofNat_of_zero_le (show 0 ≤ x by omega)
  have g0 : 2 ^ k ≤ n := by exact_mod_cast h0
  have g1 : n < 2 ^ (k + 1) := by exact_mod_cast h1
  have hn : n ≠ 0 := by have := Nat.two_pow_pos k; omega
  unfold bl
  rw [if_neg (by omega), Int.toNat_natCast]
  have e1 := (Nat.le_log2 hn).2 g0
  have e2 := (Nat.log2_lt hn).2 g1
  omega

theorem bl_spec {x : Int} (h : 1 ≤ x) : ∃ k : Nat, bl x = k + 1 ∧ 2 ^ k ≤ x ∧ x < 2 ^ (k + 1) := by
  obtain ⟨n, rfl⟩ := Int.eq_ofNat_of_zero_le (show 0 ≤ x by omega)
  have hn : n ≠ 0 := by omega
  refine ⟨n.log2, ?_, by exact_mod_cast Nat.log2_self_le hn, by exact_mod_cast Nat.lt_log2_self⟩
  unfold bl
  rw [if_neg (by omega), Int.toNat_natCast]

theorem bl_zero {x : Int} (h : x ≤ 0) : bl x = 0 := by unfold bl; rw [if_pos h]

theorem bl_nonneg (x : Int) : 0 ≤ bl x := by unfold bl; split <;> omega

theorem bl_mono {x y : Int} (h : x ≤ y) : bl x ≤ bl y := by
  rcases Int.lt_or_le x 1 with h1 | h1
  · rw [bl_zero (by omega)]; exact bl_nonneg y
  · obtain ⟨k, e1, a1, a2⟩ := bl_spec h1
    obtain ⟨j, e2, c1, c2⟩ := bl_spec (x := y) (by omega)
    rw [e1, e2]
    rcases Nat.lt_or_ge j k with hj | hj
    · have := p2le (a := j + 1) (b := k) hj
      omega
    · omega

theorem bl_le {x : Int} {n : Nat} (h : x < 2 ^ n) : bl x ≤ n := by
  rcases Int.lt_or_le x 1 with h1 | h1
  · rw [bl_zero (by omega)]; omega
  · obtain ⟨k, e1, a1, a2⟩ := bl_spec h1
    rcases Nat.lt_or_ge k n with hj | hj
    · omega
    · have := p2le (a := n) (b := k) hj; omega

theorem bl_shift {x : Int} (s : Nat) (h : 1 ≤ x / 2 ^ s) : bl x = s + bl (x / 2 ^ s) := by
  obtain ⟨k, e1, a1, a2⟩ := bl_spec h
  have hp := p2pos s
  have h1 := Int.ediv_mul_le x (show (2 : Int) ^ s ≠ 0 by omega)
  have h2 := Int.lt_ediv_add_one_mul_self x hp
  have h3 : (2 : Int) ^ k * 2 ^ s ≤ x / 2 ^ s * 2 ^ s := Int.mul_le_mul_of_nonneg_right a1 (by omega)
  have h4 : (x / 2 ^ s + 1) * 2 ^ s ≤ 2 ^ (k + 1) * 2 ^ s := Int.mul_le_mul_of_nonneg_right (by omega) (by omega)
  rw [← Int.pow_add] at h3 h4
  rw [e1, bl_of (k := k + s) (by omega) (by rw [show k + s + 1 = k + 1 + s by omega]; omega)]
  omega

def tab8 : List Int := [0, 1, 2, 2, 3, 3, 3, 3, 4, 4, 4, 4, 4, 4, 4, 4, 5, 5, 5, 5, 5, 5, 5, 5, 5, 5, 5, 5, 5, 5, 5, 5, 6, 6, 6, 6, 6, 6, 6, 6, 6, 6, 6, 6, 6, 6, 6, 6, 6, 6, 6, 6, 6, 6, 6, 6, 6, 6, 6, 6, 6, 6, 6, 6, 7, 7, 7, 7, 7, 7, 7, 7, 7, 7, 7, 7, 7, 7, 7, 7, 7, 7, 7, 7, 7, 7, 7, 7, 7, 7, 7, 7, 7, 7, 7, 7, 7, 7, 7, 7, 7, 7, 7, 7, 7, 7, 7, 7, 7, 7, 7, 7, 7, 7, 7, 7, 7, 7, 7, 7, 7, 7, 7, 7, 7, 7, 7, 7, 8, 8, 8, 8, 8, 8, 8, 8, 8, 8, 8, 8, 8, 8, 8, 8, 8, 8, 8, 8, 8, 8, 8, 8, 8, 8, 8, 8, 8, 8, 8, 8, 8, 8, 8, 8, 8, 8, 8, 8, 8, 8, 8, 8, 8, 8, 8, 8, 8, 8, 8, 8, 8, 8, 8, 8, 8, 8, 8, 8, 8, 8, 8, 8, 8, 8, 8, 8, 8, 8, 8, 8, 8, 8, 8, 8, 8, 8, 8, 8, 8, 8, 8, 8, 8, 8, 8, 8, 8, 8, 8, 8, 8, 8, 8, 8, 8, 8, 8, 8, 8, 8, 8, 8, 8, 8, 8, 8, 8, 8, 8, 8, 8, 8, 8, 8, 8, 8, 8, 8, 8, 8, 8, 8, 8, 8, 8, 8]

theorem tab8_all : ∀ y : Fin 256, tab8.getD y.val 0 = (if y.val = 0 then 0 else (y.val.log2 : Int) + 1) := by decide +kernel

theorem tab8_get {y : Int} (h0 : 0 ≤ y) (h1 : y < 256) : tab8.getD y.toNat 0 = bl y := by
  have := tab8_all ⟨y.toNat, by omega⟩
  simp only at this
  rw [this]
  unfold bl
  by_cases h : y ≤ 0
  · rw [if_pos (by omega), if_pos h]
  · rw [if_neg (by omega), if_neg h]

theorem p32 : (2 : Int) ^ min (Int.toNat (32 : Int)) IntKind.u64.bits = 4294967296 := rfl
theorem fd256 (a : Int) : a.fdiv 256 = a / 256 := fdiv_ediv (by omega)
theorem fd65536 (a : Int) : a.fdiv 65536 = a / 65536 := fdiv_ediv (by omega)
theorem fd32 (a : Int) : a.fdiv 4294967296 = a / 4294967296 := fdiv_ediv (by omega)
theorem p16 : (2 : Int) ^ min (Int.toNat (16 : Int)) IntKind.u64.bits = 65536 := rfl

set_option maxRecDepth 100000 in
theorem len64_F {N : Nat} {x : Int} (h0 : 0 ≤ x) (h1 : x < 18446744073709551616) : Rc.len64.F N x = some (bl x) := by
  have hL : Rc.len64.F N x = Rc.len64.F N x := rfl
  unfold Rc.len64.F at hL ⊢
  generalize hT : ([(0 : Int), (1 : Int), (2 : Int), (2 : Int), (3 : Int), (3 : Int), (3 : Int), (3 : Int), (4 : Int), (4 : Int), (4 : Int), (4 : Int), (4 : Int), (4 : Int), (4 : Int), (4 : Int), (5 : Int), (5 : Int), (5 : Int), (5 : Int), (5 : Int), (5 : Int), (5 : Int), (5 : Int), (5 : Int), (5 : Int), (5 : Int), (5 : Int), (5 : Int), (5 : Int), (5 : Int), (5 : Int), (6 : Int), (6 : Int), (6 : Int), (6 : Int), (6 : Int), (6 : Int), (6 : Int), (6 : Int), (6 : Int), (6 : Int), (6 : Int), (6 : Int), (6 : Int), (6 : Int), (6 : Int), (6 : Int), (6 : Int), (6 : Int), (6 : Int), (6 : Int), (6 : Int), (6 : Int), (6 : Int), (6 : Int), (6 : Int), (6 : Int), (6 : Int), (6 : Int), (6 : Int), (6 : Int), (6 : Int), (6 : Int), (7 : Int), (7 : Int), (7 : Int), (7 : Int), (7 : Int), (7 : Int), (7 : Int), (7 : Int), (7 : Int), (7 : Int), (7 : Int), (7 : Int), (7 : Int), (7 : Int), (7 : Int), (7 : Int), (7 : Int), (7 : Int), (7 : Int), (7 : Int), (7 : Int), (7 : Int), (7 : Int), (7 : Int), (7 : Int), (7 : Int), (7 : Int), (7 : Int), (7 : Int), (7 : Int), (7 : Int), (7 : Int), (7 : Int), (7 : Int), (7 : Int), (7 : Int), (7 : Int), (7 : Int), (7 : Int), (7 : Int), (7 : Int), (7 : Int), (7 : Int), (7 : Int), (7 : Int), (7 : Int), (7 : Int), (7 : Int), (7 : Int), (7 : Int), (7 : Int), (7 : Int), (7 : Int), (7 : Int), (7 : Int), (7 : Int), (7 : Int), (7 : Int), (7 : Int), (7 : Int), (7 : Int), (7 : Int), (7 : Int), (7 : Int), (8 : Int), (8 : Int), (8 : Int), (8 : Int), (8 : Int), (8 : Int), (8 : Int), (8 : Int), (8 : Int), (8 : Int), (8 : Int), (8 : Int), (8 : Int), (8 : Int), (8 : Int), (8 : Int), (8 : Int), (8 : Int), (8 : Int), (8 : Int), (8 : Int), (8 : Int), (8 : Int), (8 : Int), (8 : Int), (8 : Int), (8 : Int), (8 : Int), (8 : Int), (8 : Int), (8 : Int), (8 : Int), (8 : Int), (8 : Int), (8 : Int), (8 : Int), (8 : Int), (8 : Int), (8 : Int), (8 : Int), (8 : Int), (8 : Int), (8 : Int), (8 : Int), (8 : Int), (8 : Int), (8 : Int), (8 : Int), (8 : Int), (8 : Int), (8 : Int), (8 : Int), (8 : Int), (8 : Int), (8 : Int), (8 : Int), (8 : Int), (8 : Int), (8 : Int), (8 : Int), (8 : Int), (8 : Int), (8 : Int), (8 : Int), (8 : Int), (8 : Int), (8 : Int), (8 : Int), (8 : Int), (8 : Int), (8 : Int), (8 : Int), (8 : Int), (8 : Int), (8 : Int), (8 : Int), (8 : Int), (8 : Int), (8 : Int), (8 : Int), (8 : Int), (8 : Int), (8 : Int), (8 : Int), (8 : Int), (8 : Int), (8 : Int), (8 : Int), (8 : Int), (8 : Int), (8 : Int), (8 : Int), (8 : Int), (8 : Int), (8 : Int), (8 : Int), (8 : Int), (8 : Int), (8 : Int), (8 : Int), (8 : Int), (8 : Int), (8 : Int), (8 : Int), (8 : Int), (8 : Int), (8 : Int), (8 : Int), (8 : Int), (8 : Int), (8 : Int), (8 : Int), (8 : Int), (8 : Int), (8 : Int), (8 : Int), (8 : Int), (8 : Int), (8 : Int), (8 : Int), (8 : Int), (8 : Int), (8 : Int), (8 : Int), (8 : Int), (8 : Int), (8 : Int), (8 : Int)] : List Int) = T
  replace hT : T = tab8 := hT.symm
  subst hT
  simp only [p32, p16, p8, br_dec, ge_iff_le, fd256, fd65536, fd32]
  have sh : ∀ (s : Nat) (y : Int), x / 2 ^ s = y → (s = 0 ∨ 1 ≤ y) → bl x = s + bl y := by
    intro s y hy hs
    subst hy
    rcases hs with rfl | hs
    · simp
    · exact bl_shift s hs
  have fin : ∀ (s : Nat) (y : Int), x / 2 ^ s = y → (s = 0 ∨ 1 ≤ y) → 0 ≤ y → y < 256 → s ≤ 56 → ∀ z : Int, z = s → IntKind.i64.wrap (z + IntKind.i64.wrap (tab8.getD y.toNat 0)) = bl x := by
    intro s y hy hs hy0 hy1 hs2 z hz
    have b0 := bl_nonneg y
    have b1 := bl_le (n := 8) (x := y) (by show y < 256; exact hy1)
    rw [tab8_get hy0 hy1, i64 (x := bl y) (by omega) (by omega), i64 (by omega) (by omega), sh s y hy hs, hz]
  by_cases a1 : 4294967296 ≤ x
  · rw [if_pos a1]
    by_cases a2 : 65536 ≤ x / 4294967296
    · rw [if_pos a2]
      by_cases a3 : 256 ≤ x / 4294967296 / 65536
      · rw [if_pos a3]
        refine (chk_pos (by rw [u8 (by omega) (by omega)]; omega) _).trans ?_
        rw [u8 (by omega) (by omega)]
        exact congrArg some (fin 56 _ (by show x / 72057594037927936 = _; omega) (Or.inr (by omega)) (by omega) (by omega) (by omega) _ rfl)
      · rw [if_neg a3]
        refine (chk_pos (by rw [u8 (by omega) (by omega)]; omega) _).trans ?_
        rw [u8 (by omega) (by omega)]
        exact congrArg some (fin 48 _ (by show x / 281474976710656 = _; omega) (Or.inr (by omega)) (by omega) (by omega) (by omega) _ rfl)
    · rw [if_neg a2]
      by_cases a3 : 256 ≤ x / 4294967296
      · rw [if_pos a3]
        refine (chk_pos (by rw [u8 (by omega) (by omega)]; omega) _).trans ?_
        rw [u8 (by omega) (by omega)]
        exact congrArg some (fin 40 _ (by show x / 1099511627776 = _; omega) (Or.inr (by omega)) (by omega) (by omega) (by omega) _ rfl)
      · rw [if_neg a3]
        refine (chk_pos (by rw [u8 (by omega) (by omega)]; omega) _).trans ?_
        rw [u8 (by omega) (by omega)]
        exact congrArg some (fin 32 _ (by show x / 4294967296 = _; omega) (Or.inr (by omega)) (by omega) (by omega) (by omega) _ rfl)
  · rw [if_neg a1]
    by_cases a2 : 65536 ≤ x
    · rw [if_pos a2]
      by_cases a3 : 256 ≤ x / 65536
      · rw [if_pos a3]
        refine (chk_pos (by rw [u8 (by omega) (by omega)]; omega) _).trans ?_
        rw [u8 (by omega) (by omega)]
        exact congrArg some (fin 24 _ (by show x / 16777216 = _; omega) (Or.inr (by omega)) (by omega) (by omega) (by omega) _ rfl)
      · rw [if_neg a3]
        refine (chk_pos (by rw [u8 (by omega) (by omega)]; omega) _).trans ?_
        rw [u8 (by omega) (by omega)]
        exact congrArg some (fin 16 _ (by show x / 65536 = _; omega) (Or.inr (by omega)) (by omega) (by omega) (by omega) _ rfl)
    · rw [if_neg a2]
      by_cases a3 : 256 ≤ x
      · rw [if_pos a3]
        refine (chk_pos (by rw [u8 (by omega) (by omega)]; omega) _).trans ?_
        rw [u8 (by omega) (by omega)]
        exact congrArg some (fin 8 _ (by show x / 256 = _; omega) (Or.inr (by omega)) (by omega) (by omega) (by omega) _ rfl)
      · rw [if_neg a3]
        refine (chk_pos (by rw [u8 (by omega) (by omega)]; omega) _).trans ?_
        rw [u8 (by omega) (by omega)]
        exact congrArg some (fin 0 _ (by simp) (Or.inl rfl) (by omega) (by omega) (by omega) _ rfl)

/-! ### Tell, Bad -/
def Q.tell (q : Q) (count : Int) : Int := count - bl q.rng

theorem Q.bl_range {q : Q} (h : q.Ok) : 24 ≤ bl q.rng ∧ bl q.rng ≤ 32 := by
  refine ⟨?_, bl_le (n := 32) (by show q.rng < 4294967296; have := h.r1; omega)⟩
  have := bl_mono (x := 8388608) (y := q.rng) (by have := h.r0; omega)
  have e : bl 8388608 = 24 := by decide +kernel
  omega

section
variable {N : Nat} {val last front back window waiting count : Int} {bad : Bool} {b : List Int}
theorem tell_F {q : Q} (h : q.Ok) (hc0 : 0 ≤ count) (hc1 : count < 1099511627776) : Rc.tell.F N q.rng val last front back window waiting count bad b = some (q.tell count) := by
  have := Q.bl_range h
  unfold Rc.tell.F
  simp only [chkI_same, chkB_same, chkL_same]
  rw [len64_F (by have := h.r0; omega) (by have := h.r1; omega), obind_of, i64 (by omega) (by omega)]
  rfl
end
section
variable {N : Nat} {val last front back wait waiting count eq : Int} {bad : Bool} {b : List Int}
end

/-! ### At first -/
def Q.new0 (b : List Int) : Q := ⟨128, 127 - nb b 0 / 2, nb b 0, 1⟩
def Q.new (b : List Int) : Q := (Q.new0 b).on b
def cnew (b : List Int) : Int := 9 + 8 * (((Q.new b).m - 1 : Nat) : Int)

theorem Q.new0_pre {b : List Int} (hb : Bytes b) : (Q.new0 b).Pre := by
  obtain ⟨h1, h2⟩ := nb_range hb 0
  unfold Q.new0
  exact ⟨by simp only; omega, by simp only; omega, by simp only; omega, by simp only; omega, h1, h2⟩
theorem Q.new_ok {b : List Int} (hb : Bytes b) : (Q.new b).Ok := Q.on_ok hb (Q.new0_pre hb)
theorem Q.new_m (b : List Int) : 1 ≤ (Q.new b).m ∧ (Q.new b).m ≤ 5 := Q.on_m b (Q.new0 b)

theorem clone8_F {N : Nat} {b : List Int} (hl : b.length < 140737488351233) : Rc.clone8.F2 N b = some b := by
  unfold Rc.clone8.F2
  rw [chk_pos (by omega)]

theorem new_F {N : Nat} {b : List Int} (hb : Bytes b) (hl : b.length < 140737488351233) (hN : 300 ≤ N) :
    Rc.new.F N b = some ((Q.new b).rng, (Q.new b).val, (Q.new b).last, fr b (Q.new b).m, 0, 0, 0, cnew b, false, b) := by
  unfold Rc.new.F
  obtain ⟨h1, h2⟩ := nb_range hb 0
  have hn := next_F (N := N) (rng := 128) (val := 0) (last := 0) (back := 0) (window := 0) (waiting := 0) (count := 9) (bad := false) hb hl 0
  rw [show fr b 0 = 0 by simp [fr]] at hn
  rw [clone8_F hl, obind_of, hn, obind_of]
  simp only [p1]
  rw [fdiv_ediv (by omega), u64 (by omega) (by omega)]
  have := norm_F (N := N) (back := 0) (window := 0) (waiting := 0) (count := 9) (bad := false) hb hl (Q.new0_pre hb) (by omega) (by omega) (by omega)
  simp only [Q.new0] at this
  rw [this]
  rfl

end Go.Pl
/-
  Plain words of chapter 3, those that hang on no law (taken out of the texts of L3 by split.py).
  Conditions: none.
-/
namespace Go.Pl
open Go.Eng Go.Proofs
theorem cnew_range (b : List Int) : 0 ≤ cnew b ∧ cnew b ≤ 41 := by
  have := Q.new_m b
  unfold cnew
  omega

/-- At first nothing waits. -/
def W.new : W := ⟨0, 0, 0⟩
theorem W.new_ok : W.new.Ok := ⟨by decide, by decide, by decide⟩

theorem Q.new_rng (b : List Int) : (Q.new b).rng = 2147483648 ∧ (Q.new b).m = 4 := by
  have : Q.new b = ((((Q.new0 b).step b).step b).step b) := rfl
  rw [this]
  exact ⟨rfl, rfl⟩

theorem cnew_eq (b : List Int) : cnew b = 1 + 8 * ((Q.new b).m : Int) := by
  have := (Q.new_rng b).2
  unfold cnew
  omega

/-- The bit number p from the end. -/
def bitE (b : List Int) (p : Nat) : Int := (eb b (p / 8) / 2 ^ (p % 8)) % 2

theorem bitE_range (b : List Int) (p : Nat) : 0 ≤ bitE b p ∧ bitE b p < 2 := by unfold bitE; omega

/-- n bits from P on. -/
def bsum (b : List Int) (P : Nat) : Nat → Int
  | 0 => 0
  | n + 1 => bsum b P n + bitE b (P + n) * 2 ^ n

theorem bsum_range (b : List Int) (P : Nat) : ∀ n, 0 ≤ bsum b P n ∧ bsum b P n < 2 ^ n
  | 0 => by simp [bsum]
  | n + 1 => by
    obtain ⟨h1, h2⟩ := bsum_range b P n
    obtain ⟨h3, h4⟩ := bitE_range b (P + n)
    have h5 := p2pos n
    have h6 : 0 ≤ bitE b (P + n) * 2 ^ n := Int.mul_nonneg h3 (by omega)
    have h7 : bitE b (P + n) * 2 ^ n ≤ 1 * 2 ^ n := Int.mul_le_mul_of_nonneg_right (by omega) (by omega)
    simp only [bsum, Int.pow_succ]
    omega

theorem bsum_split (b : List Int) (P a : Nat) : ∀ c, bsum b P (a + c) = bsum b P a + 2 ^ a * bsum b (P + a) c
  | 0 => by simp [bsum]
  | c + 1 => by
    rw [← Nat.add_assoc]
    simp only [bsum]
    rw [bsum_split b P a c, Int.pow_add, Nat.add_assoc P a c, Int.mul_add, ← Int.mul_assoc (2 ^ a), Int.mul_comm (2 ^ a) (bitE b _), Int.mul_assoc (bitE b _), Int.add_assoc]

theorem bsum_byte {b : List Int} (hb : Bytes b) (k : Nat) : bsum b (8 * k) 8 = eb b k := by
  obtain ⟨h1, h2⟩ := eb_range hb k
  simp only [bsum, bitE]
  rw [show (8 * k + 0) / 8 = k by omega, show (8 * k + 1) / 8 = k by omega, show (8 * k + 2) / 8 = k by omega, show (8 * k + 3) / 8 = k by omega, show (8 * k + 4) / 8 = k by omega, show (8 * k + 5) / 8 = k by omega, show (8 * k + 6) / 8 = k by omega, show (8 * k + 7) / 8 = k by omega]
  rw [show (8 * k + 0) % 8 = 0 by omega, show (8 * k + 1) % 8 = 1 by omega, show (8 * k + 2) % 8 = 2 by omega, show (8 * k + 3) % 8 = 3 by omega, show (8 * k + 4) % 8 = 4 by omega, show (8 * k + 5) % 8 = 5 by omega, show (8 * k + 6) % 8 = 6 by omega, show (8 * k + 7) % 8 = 7 by omega]
  generalize eb b k = x at h1 h2 ⊢
  have e0 : (2 : Int) ^ 0 = 1 := rfl
  have e1 : (2 : Int) ^ 1 = 2 := rfl
  have e2 : (2 : Int) ^ 2 = 4 := rfl
  have e3 : (2 : Int) ^ 3 = 8 := rfl
  have e4 : (2 : Int) ^ 4 = 16 := rfl
  have e5 : (2 : Int) ^ 5 = 32 := rfl
  have e6 : (2 : Int) ^ 6 = 64 := rfl
  have e7 : (2 : Int) ^ 7 = 128 := rfl
  rw [e0, e1, e2, e3, e4, e5, e6, e7]
  omega

/-- What waits are the next bits. -/
structure W.At (b : List Int) (w : W) (P : Nat) : Prop where
  a : 8 * w.k = P + w.wai
  b : w.win = bsum b P w.wai

theorem W.At.step {b : List Int} (hb : Bytes b) {w : W} {P : Nat} (h : w.At b P) : (w.step b).At b P := by
  refine ⟨by have := h.a; simp only [W.step]; omega, ?_⟩
  simp only [W.step]
  rw [bsum_split, h.b, show P + w.wai = 8 * w.k by have := h.a; omega, bsum_byte hb, Int.mul_comm]

theorem W.At.fill {b : List Int} (hb : Bytes b) {P n : Nat} : ∀ (f : Nat) (w : W), w.At b P → (W.fill b n f w).At b P
  | 0, w, h => h
  | f + 1, w, h => by
    simp only [W.fill]
    split
    · exact W.At.fill hb f _ (h.step hb)
    · exact h

theorem W.At.next {b : List Int} (hb : Bytes b) {w : W} {P n : Nat} (h : w.At b P) (hn : n ≤ 24) : w.val b n = bsum b P n ∧ (w.next b n).At b (P + n) := by
  have hf := W.At.fill (n := n) hb 4 w h
  have h4 := W.fill_n (b := b) (n := n) 4 w (by omega)
  obtain ⟨r0, r1⟩ := bsum_range b P n
  have hp := p2pos n
  have e : (W.fill b n 4 w).win = bsum b P n + 2 ^ n * bsum b (P + n) ((W.fill b n 4 w).wai - n) := by
    rw [hf.b, ← bsum_split]
    congr 1
    omega
  refine ⟨?_, ⟨?_, ?_⟩⟩
  · unfold W.val W.at
    rw [e, Int.add_mul_emod_self_left, Int.emod_eq_of_lt r0 r1]
  · have := hf.a
    simp only [W.next, W.at]
    omega
  · simp only [W.next, W.at]
    rw [e, Int.add_mul_ediv_left _ _ (by omega), Int.ediv_eq_zero_of_lt r0 r1, Int.zero_add]

end Go.Pl
/-
  Plain words of chapter 3, those that hang on no law (taken out of the texts of L3 by split.py).
  Conditions: none.
-/
namespace Go.Pl
open Go.Eng Go.Proofs
/-- Bits that are read as they are; of how many the rest is chosen. -/
def ub (ft : Int) : Nat := (bl (ft - 1) - 8).toNat
def uf (ft : Int) : Int := (ft - 1) / 2 ^ ub ft + 1

section
variable {N : Nat} {count : Int} {bad : Bool} {b : List Int}
end
end Go.Pl
/-
  Chapter 3 in plain words: numbers that are small as a rule (rc's); the reference's flags, bits, numbers.
  Conditions: none.
-/
namespace Go.Pl
open Go.Eng Go.Proofs

/-! ### Laplace -/
structure Lp where
  l : Int
  v : Int
  s : Int

def Lp.step (decay : Int) (p : Lp) : Lp := ⟨p.l + 2 * p.s, p.v + 1, (2 * p.s - 2) * decay / 32768 + 1⟩
def Lp.run (decay f : Int) : Nat → Lp → Lp
  | 0, p => p
  | n + 1, p => if 1 < p.s ∧ p.l + 2 * p.s ≤ f then Lp.run decay f n (p.step decay) else p

structure Lp.Ok (f : Int) (p : Lp) : Prop where
  l0 : 0 ≤ p.l
  l1 : p.l ≤ f
  s0 : 1 ≤ p.s
  s1 : p.s ≤ 20000
  v0 : 0 ≤ p.v
  v1 : p.v ≤ p.l + 1

theorem Lp.Ok.step {decay f : Int} (d0 : 0 ≤ decay) (d1 : decay ≤ 16000) {p : Lp} (h : p.Ok f) (hs : 1 < p.s) (hf : p.l + 2 * p.s ≤ f) : (p.step decay).Ok f ∧ 0 ≤ (2 * p.s - 2) * decay ∧ (2 * p.s - 2) * decay ≤ (2 * p.s - 2) * 16000 := by
  obtain ⟨h1, h2, h3, h4, h5, h6⟩ := h
  have k1 : 0 ≤ (2 * p.s - 2) * decay := Int.mul_nonneg (by omega) d0
  have k2 : (2 * p.s - 2) * decay ≤ (2 * p.s - 2) * 16000 := Int.mul_le_mul_of_nonneg_left d1 (by omega)
  refine ⟨⟨by simp only [Lp.step]; omega, by simp only [Lp.step]; omega, by simp only [Lp.step]; omega, by simp only [Lp.step]; omega, by simp only [Lp.step]; omega, by simp only [Lp.step]; omega⟩, k1, k2⟩

/-- At first: one, behind nought. -/
def Lp.start (fs decay : Int) : Lp := ⟨fs, 1, (32736 - fs) * (16384 - decay) / 32768 + 1⟩
def lapEnd (f : Int) (p : Lp) : Lp :=
  let p2 : Lp := if p.s ≤ 1 then ⟨p.l + 2 * ((f - p.l) / 2), p.v + (f - p.l) / 2, p.s⟩ else p
  if f < p2.l + p2.s then ⟨p2.l, -p2.v, p2.s⟩ else ⟨p2.l + p2.s, p2.v, p2.s⟩
/-- Where f lies: from l on, s wide; v. -/
def lapAt (f fs decay : Int) : Lp := if f ≥ fs then lapEnd f (Lp.run decay f 8192 (Lp.start fs decay)) else ⟨0, 0, fs⟩

end Go.Pl
/-
  Chapter 3 in plain words: Laplace's numbers in the code, and the reference's flags, bits, numbers.
  Conditions: none.
-/
namespace Go.Pl
open Go.Eng Go.Proofs

def lapH (p : Lp) : Int := min (p.l + p.s) 32768
section
variable {N : Nat} {back window waiting count : Int} {bad : Bool} {b : List Int}

end

section
variable {N : Nat} {back wait waiting count eq : Int} {bad : Bool} {b : List Int}

end
end Go.Pl
/-
  Chapter 4 in plain words: bytes of numbers, the range encoder's register as whole numbers, what is written is read.
  Conditions: none.
-/
namespace Go.Pl
open Go.Eng

/-! ### Bytes of numbers -/
/-- k bytes of a number, the highest first. -/
def tb : Nat → Int → List Int
  | 0, _ => []
  | k + 1, n => tb k (n / 256) ++ [n % 256]

/-- The first m bytes as a number; behind the end all is nought. -/
def cp (b : List Int) : Nat → Int
  | 0 => 0
  | m + 1 => cp b m * 256 + nb b m

/-- k bytes of a number, the lowest first. -/
def le : Nat → Int → List Int
  | 0, _ => []
  | k + 1, n => n % 256 :: le k (n / 256)

/-! ### The register -/
/-- How many bytes are told; the lower end; the range; how many bits for the end; these, the first one lowest. -/
structure E where
  k : Nat
  low : Int
  rng : Int
  r : Nat
  raw : Int

def E.told (e : E) : List Int := tb e.k (e.low / 2147483648)
def E.val (e : E) : Int := e.low % 2147483648
def E.bits (e : E) : List Int := le ((e.r + 7) / 8) e.raw
def E.count (e : E) : Int := 33 + 8 * (e.k : Int) + (e.r : Int)
def E.tell (e : E) : Int := e.count - bl e.rng

/-- While it goes on; between calls the range is great. -/
structure E.Pre (e : E) : Prop where
  r0 : 1 ≤ e.rng
  r1 : e.rng ≤ 2147483648
  l0 : 0 ≤ e.low
  l1 : e.low + e.rng ≤ 2147483648 * 256 ^ e.k
  w0 : 0 ≤ e.raw
  w1 : e.raw < 2 ^ e.r
structure E.Ok (e : E) : Prop extends E.Pre e where
  g : 8388608 < e.rng

def E.step (e : E) : E := ⟨e.k + 1, e.low * 256, e.rng * 256, e.r, e.raw⟩
def E.norm : Nat → E → E
  | 0, e => e
  | n + 1, e => if e.rng ≤ 8388608 then E.norm n e.step else e
def E.on (e : E) : E := E.norm 4 e

theorem E.Pre.step {e : E} (h : e.Pre) (hr : e.rng ≤ 8388608) : e.step.Pre := by
  obtain ⟨h1, h2, h3, h4, h5, h6⟩ := h
  refine ⟨by simp only [E.step]; omega, by simp only [E.step]; omega, by simp only [E.step]; omega, ?_, h5, h6⟩
  simp only [E.step, Int.pow_succ]
  omega

theorem E.norm_ok : ∀ (n : Nat) (e : E), e.Pre → 8388608 < e.rng * 256 ^ n → (E.norm n e).Ok
  | 0, e, h, hn => ⟨h, by simpa [E.norm] using hn⟩
  | n + 1, e, h, hn => by
    simp only [E.norm]
    split
    · rename_i hr
      refine E.norm_ok n _ (h.step hr) ?_
      simp only [E.step]
      rw [Int.pow_succ] at hn
      rw [Int.mul_assoc, Int.mul_comm 256]
      exact hn
    · exact ⟨h, by omega⟩
theorem E.on_ok {e : E} (h : e.Pre) : e.on.Ok := E.norm_ok 4 e h (by have := h.r0; omega)

theorem E.norm_stop {e : E} (h : 8388608 < e.rng) : ∀ n, E.norm n e = e
  | 0 => rfl
  | n + 1 => by simp only [E.norm]; rw [if_neg (by omega)]

/-! ### What is written -/
def E.f0 (e : E) (v : Bool) (n : Nat) : E :=
  if v then ⟨e.k, e.low + (e.rng - e.rng / 2 ^ n), e.rng / 2 ^ n, e.r, e.raw⟩ else ⟨e.k, e.low, e.rng - e.rng / 2 ^ n, e.r, e.raw⟩
def E.fl (e : E) (v : Bool) (n : Nat) : E := (e.f0 v n).on
/-- A place that may be written. -/
structure Place (fl fh ft : Int) : Prop where
  t0 : 1 ≤ ft
  t1 : ft ≤ 65536
  a : 0 ≤ fl
  b : fl < fh
  c : fh ≤ ft

/-! ### What is written is read -/
/-- Does the code lie where it may? -/
def E.In (b : List Int) (e : E) : Prop := e.low ≤ cp b (e.k + 4) / 2 ∧ cp b (e.k + 4) / 2 < e.low + e.rng
/-- The reader's register then. -/
def E.rd (b : List Int) (e : E) : Q := ⟨e.rng, e.low + e.rng - 1 - cp b (e.k + 4) / 2, nb b (e.k + 3), e.k + 4⟩

end Go.Pl
/-
  Chapter 4 in plain words: the bytes that are told at the end hold the code and the bits for the end.
  Conditions: none.
-/
namespace Go.Pl
open Go.Eng

/-! ### Bits from the end -/
/-! ### The code and the bits fit -/
structure E.Fit (b : List Int) (e : E) : Prop where
  i : e.In b
  s : bsum b 0 e.r = e.raw

/-! ### The end -/
/-- The code's lower end, of n bytes, rounded up. -/
def E.top (e : E) (n : Nat) : Int :=
  if e.k + 4 ≤ n then 2 * e.low * 256 ^ (n - (e.k + 4)) else 2 * e.low / 256 ^ (e.k + 4 - n) + (if 2 * e.low % 256 ^ (e.k + 4 - n) = 0 then 0 else 1)
/-- The bits for the end laid in. -/
def E.mid (e : E) (n : Nat) : Int := e.top n - e.top n % 2 ^ e.r + e.raw
def E.out (e : E) (n : Nat) : Int := if e.mid n < e.top n then e.mid n + 2 ^ e.r else e.mid n

end Go.Pl
/-
  Chapter 4 in plain words: what renc's functions come to (the register, symbols, flags, bits, numbers).
  Conditions: none.
-/
namespace Go.Pl
open Go.Eng Go.Proofs

section
variable {N : Nat}

theorem E.step_val (e : E) : e.step.val = e.val * 256 % 2147483648 := by
  simp only [E.val, E.step]
  omega

/-- Small enough. -/
structure E.Lim (N : Nat) (e : E) : Prop where
  k : e.k < 1099511627000
  r : e.r < 1099511627000
  N : e.k + 400 ≤ N

/-! ### Symbols -/
/-! ### Flags -/
/-! ### Bits -/
end
end Go.Pl
/-
  Chapter 4 in plain words: numbers below a bound, Tell, the end.
  Conditions: none.
-/
namespace Go.Pl
open Go.Eng Go.Proofs

/-! ### Numbers below a bound -/
section
variable {N : Nat}

/-! ### Tell -/
theorem E.bl_range {e : E} (h : e.Ok) : 24 ≤ bl e.rng ∧ bl e.rng ≤ 32 := by
  refine ⟨?_, bl_le (n := 32) (by show e.rng < 4294967296; have := h.r1; omega)⟩
  have := bl_mono (x := 8388608) (y := e.rng) (by have := h.g; omega)
  have e : bl 8388608 = 24 := by decide +kernel
  omega
/-! ### To add a power of two -/
/-! ### Is one not nought? -/
/-! ### Which is less? -/
end
end Go.Pl
/-
  Chapter 4 in plain words: what Done tells.
  Conditions: none.
-/
namespace Go.Pl
open Go.Eng Go.Proofs

/-! ### Bits of bytes -/
section
variable {N : Nat}

end
end Go.Pl
/-
  Chapter 4 in plain words: numbers that are small as a rule.
  Conditions: none.
-/
namespace Go.Pl
open Go.Eng Go.Proofs

def Lp.it (decay : Int) : Nat → Lp → Lp
  | 0, p => p
  | n + 1, p => Lp.it decay n (p.step decay)

/-- Narrow steps, that grow no wider. -/
structure Lp.Sm (p : Lp) : Prop where
  s0 : 1 ≤ p.s
  s1 : p.s ≤ 20000

theorem Lp.Sm.step {decay : Int} (d0 : 0 ≤ decay) (d1 : decay ≤ 16000) {p : Lp} (h : p.Sm) : (p.step decay).Sm ∧ 0 ≤ (2 * p.s - 2) * decay ∧ (2 * p.s - 2) * decay ≤ (2 * p.s - 2) * 16000 := by
  obtain ⟨h3, h4⟩ := h
  have k1 : 0 ≤ (2 * p.s - 2) * decay := Int.mul_nonneg (by omega) d0
  have k2 : (2 * p.s - 2) * decay ≤ (2 * p.s - 2) * 16000 := Int.mul_le_mul_of_nonneg_left d1 (by omega)
  exact ⟨⟨by simp only [Lp.step]; omega, by simp only [Lp.step]; omega⟩, k1, k2⟩

theorem Lp.it_facts {decay : Int} (d0 : 0 ≤ decay) (d1 : decay ≤ 16000) : ∀ (n : Nat) (p : Lp), p.Sm → (Lp.it decay n p).Sm ∧ p.l + 2 * n ≤ (Lp.it decay n p).l ∧ (Lp.it decay n p).v = p.v + n
  | 0, p, h => ⟨h, by simp [Lp.it], by simp [Lp.it]⟩
  | n + 1, p, h => by
    obtain ⟨h1, h2, h3⟩ := Lp.it_facts d0 d1 n (p.step decay) (h.step d0 d1).1
    have := h.s0
    simp only [Lp.it]
    refine ⟨h1, ?_, ?_⟩
    · simp only [Lp.step] at h2; simp only [Lp.step]; omega
    · simp only [Lp.step] at h3; simp only [Lp.step]; omega

theorem Lp.it_one {decay : Int} : ∀ (n : Nat) (p : Lp), p.s = 1 → Lp.it decay n p = ⟨p.l + 2 * n, p.v + n, 1⟩
  | 0, p, h => by cases p; simp at h; subst h; simp [Lp.it]
  | n + 1, p, h => by
    have hs : p.step decay = ⟨p.l + 2, p.v + 1, 1⟩ := by simp [Lp.step, h]
    simp only [Lp.it]
    rw [hs, Lp.it_one n _ rfl, Lp.mk.injEq]
    exact ⟨by simp only; omega, by simp only; omega, rfl⟩

/-- The place, of one side, at the iterate. -/
def lapOf (f : Int) (p : Lp) : Lp := if f < p.l + p.s then ⟨p.l, -p.v, p.s⟩ else ⟨p.l + p.s, p.v, p.s⟩

theorem lap_it {decay f : Int} (d0 : 0 ≤ decay) (d1 : decay ≤ 16000) : ∀ (i n : Nat) (p : Lp), p.Sm → f < p.l + 4 * n → (Lp.it decay i p).l ≤ f → f < (Lp.it decay i p).l + 2 * (Lp.it decay i p).s →
    lapEnd f (Lp.run decay f n p) = lapOf f (Lp.it decay i p)
  | 0, n, p, h, hn, h1, h2 => by
    simp only [Lp.it] at h1 h2 ⊢
    have hr : Lp.run decay f n p = p := by
      cases n with
      | zero => rfl
      | succ n => simp only [Lp.run]; rw [if_neg (by omega)]
    rw [hr]
    unfold lapEnd lapOf
    have := h.s0
    by_cases hs : p.s ≤ 1
    · have e1 : (f - p.l) / 2 = 0 := by omega
      simp only [if_pos hs, e1]
      simp
    · simp only [if_neg hs]
  | i + 1, 0, p, h, hn, h1, h2 => by
    have := (Lp.it_facts d0 d1 (i + 1) p h).2.1
    omega
  | i + 1, n + 1, p, h, hn, h1, h2 => by
    obtain ⟨g1, g2, g3⟩ := Lp.it_facts d0 d1 i (p.step decay) (h.step d0 d1).1
    simp only [Lp.it] at h1 h2
    have hs0 := h.s0
    by_cases hs : 1 < p.s
    · have el : (p.step decay).l = p.l + 2 * p.s := rfl
      have : p.l + 2 * p.s ≤ f := by omega
      simp only [Lp.run]
      rw [if_pos ⟨hs, this⟩]
      exact lap_it d0 d1 i n _ (h.step d0 d1).1 (by rw [el]; omega) h1 h2
    · have h1s : p.s = 1 := by omega
      have hr : Lp.run decay f (n + 1) p = p := by simp only [Lp.run]; rw [if_neg (by omega)]
      have hi := Lp.it_one (decay := decay) (i + 1) p h1s
      simp only [Lp.it] at hi
      rw [hi] at h1 h2
      simp only [Lp.it]
      rw [hr, hi]
      simp only at h1 h2
      have e1 : (f - p.l) / 2 = ((i + 1 : Nat) : Int) := by omega
      unfold lapEnd lapOf
      simp only [e1, h1s, Int.le_refl, if_true]

/-! ### The writer's -/
/-- Where the writer stops: at the number wanted, or ahead of a place that lies outside. -/
def plR (decay up sg : Int) (i : Nat) (p : Lp) : Int × Int × Int :=
  (sg * (Lp.it decay i p).v, (Lp.it decay i p).l + up * (Lp.it decay i p).s, min ((Lp.it decay i p).l + up * (Lp.it decay i p).s + (Lp.it decay i p).s) 32768)
def plOut (decay up : Int) (i : Nat) (p : Lp) : Prop := (Lp.it decay i p).l + up * (Lp.it decay i p).s ≥ 32768

theorem start_sm {fs decay : Int} (h0 : 256 ≤ fs) (h1 : fs ≤ 28000) (d0 : 0 ≤ decay) (d1 : decay ≤ 16000) : (Lp.start fs decay).Sm ∧ (Lp.start fs decay).l + (Lp.start fs decay).s < 32768 ∧ 0 ≤ (32736 - fs) * (16384 - decay) ∧ (32736 - fs) * (16384 - decay) ≤ (32736 - fs) * 16384 := by
  have k1 : 0 ≤ (32736 - fs) * (16384 - decay) := Int.mul_nonneg (by omega) (by omega)
  have k2 : (32736 - fs) * (16384 - decay) ≤ (32736 - fs) * 16384 := Int.mul_le_mul_of_nonneg_left (by omega) (by omega)
  exact ⟨⟨by simp only [Lp.start]; omega, by simp only [Lp.start]; omega⟩, by simp only [Lp.start]; omega, k1, k2⟩

/-- What the writer finds. -/
structure Lap (fs decay v : Int) (r : Int × Int × Int) : Prop where
  z : v = 0 → r = (0, 0, fs)
  nz : v ≠ 0 → ∃ (up sg : Int) (i : Nat), (0 < v ∧ up = 1 ∧ sg = 1 ∨ v < 0 ∧ up = 0 ∧ sg = -1) ∧ i < 16300 ∧ (∀ j, j ≤ i → ¬ plOut decay up j (Lp.start fs decay)) ∧ 1 + (i : Int) ≤ sg * v ∧ (1 + (i : Int) = sg * v ∨ plOut decay up (i + 1) (Lp.start fs decay)) ∧ r = plR decay up sg i (Lp.start fs decay)

/-- The place is one; the reader finds it. -/
theorem Lap.place {fs decay v : Int} {r : Int × Int × Int} (h0 : 256 ≤ fs) (h1 : fs ≤ 28000) (d0 : 0 ≤ decay) (d1 : decay ≤ 16000) (h : Lap fs decay v r) :
    Place r.2.1 r.2.2 32768 ∧ (∀ f, r.2.1 ≤ f → f < r.2.2 → (lapAt f fs decay).l = r.2.1 ∧ lapH (lapAt f fs decay) = r.2.2 ∧ (lapAt f fs decay).v = r.1) ∧ (0 ≤ v → 0 ≤ r.1 ∧ r.1 ≤ v) ∧ (v ≤ 0 → r.1 ≤ 0 ∧ v ≤ r.1) := by
  obtain ⟨sm, sl, _, _⟩ := start_sm h0 h1 d0 d1
  by_cases hz : v = 0
  · rw [h.z hz]
    refine ⟨⟨by omega, by omega, by simp only; omega, by simp only; omega, by simp only; omega⟩, fun f f0 f1 => ?_, fun _ => by simp only; omega, fun _ => by simp only; omega⟩
    simp only at f0 f1
    unfold lapAt
    rw [if_neg (by omega)]
    refine ⟨rfl, ?_, rfl⟩
    unfold lapH
    simp only
    omega
  · obtain ⟨up, sg, i, hu, hi, i1, i2, i3, rfl⟩ := h.nz hz
    obtain ⟨g1, g2, g3⟩ := Lp.it_facts d0 d1 i (Lp.start fs decay) sm
    have hno := i1 i (Nat.le_refl _)
    unfold plOut at hno
    have hv : (Lp.start fs decay).v = 1 := rfl
    have hl : (Lp.start fs decay).l = fs := rfl
    obtain ⟨s0, s1⟩ := g1
    unfold plR
    have hus : 0 ≤ up * (Lp.it decay i (Lp.start fs decay)).s ∧ up * (Lp.it decay i (Lp.start fs decay)).s ≤ (Lp.it decay i (Lp.start fs decay)).s := by
      rcases hu with ⟨_, rfl, _⟩ | ⟨_, rfl, _⟩ <;> simp <;> omega
    refine ⟨⟨by omega, by omega, by simp only; omega, by simp only; omega, by simp only; omega⟩, fun f f0 f1 => ?_, fun hp => ?_, fun hp => ?_⟩
    · simp only at f0 f1 ⊢
      have hf : f < (Lp.it decay i (Lp.start fs decay)).l + 2 * (Lp.it decay i (Lp.start fs decay)).s := by omega
      unfold lapAt
      rw [if_pos (show f ≥ fs by omega), lap_it d0 d1 i 8192 (Lp.start fs decay) sm (by omega) (by omega) hf]
      unfold lapOf lapH
      rcases hu with ⟨_, rfl, rfl⟩ | ⟨_, rfl, rfl⟩
      · simp only [Int.one_mul] at f0 f1 ⊢
        rw [if_neg (by omega)]
        simp
      · simp only [Int.zero_mul, Int.add_zero] at f0 f1 ⊢
        rw [if_pos (by omega)]
        simp only [true_and]
        omega
    · rcases hu with ⟨_, rfl, rfl⟩ | ⟨hn, _⟩
      · simp only [Int.one_mul] at i2 ⊢; omega
      · omega
    · rcases hu with ⟨hn, _⟩ | ⟨_, rfl, rfl⟩
      · omega
      · simp only at i2 ⊢; omega
end Go.Pl
/-
  Chapter 4 in plain words: each writing, and what a reader finds of it.
  Conditions: none.
-/
namespace Go.Pl
open Go.Eng Go.Proofs

/-- Few enough writings. -/
structure E.Low (e : E) : Prop where
  k : e.k ≤ 10000
  r : e.r ≤ 100000
/-- At first. -/
def E.new : E := ⟨0, 0, 2147483648, 0, 0⟩
theorem E.new_ok : E.new.Ok := ⟨⟨by decide, by decide, by decide, by decide, by decide, by decide⟩, by decide⟩
theorem E.new_tell : E.new.tell = 1 := by decide +kernel
/-! ### Tell -/
/-! ### Laplace -/
section
variable {N : Nat}
end

/-! ### What a reader finds -/
section
variable {b : List Int} {e : E}
end
end Go.Pl
/-
  Layer 20's statements stand here in the place of layer 19's.
  Conditions: none.
-/
/-
  Layer 19, common parts: what is expected, the reading of energies by the program and by its plain twin.
  Conditions: none.
-/
namespace Go.Pl
open Go.Eng Go.Proofs

def cl (v : Int) : Int := if v < 0 then 0 else if v > 100 then 100 else v
theorem cl_range (v : Int) : 0 ≤ cl v ∧ cl v ≤ 100 := by
  unfold cl
  split
  · omega
  · split <;> omega
theorem eclamp_F {N : Nat} (v : Int) : Rc.eclamp.F N v = some (cl v) := by
  unfold Rc.eclamp.F cl
  congr 1
  split <;> split <;> first | rfl | omega | (exfalso; omega) | (split <;> first | rfl | (exfalso; omega))
/-! ### Reading -/
section
variable {N : Nat} {back window wait waiting eq : Int} {bad : Bool} {b : List Int}

/-! ### Lists of numbers that are one -/
/-! ### The two statements of reading -/
end
end Go.Pl
/-
  Layer 19: the sizes of the energies, and which number is nearest.
  Conditions: none.
-/
namespace Go.Pl
open Go.Eng Go.Proofs
set_option maxRecDepth 100000

def szT : List Int := [1, 1, 1, 2, 2, 2, 3, 3, 4, 5, 6, 7, 8, 10, 11, 13, 16, 19, 23, 27, 32, 38, 45, 54, 64, 76, 91, 108, 128, 152, 181, 215, 256, 304, 362, 431, 512, 609, 724, 861, 1024, 1218, 1448, 1722, 2048, 2435, 2896, 3444, 4096, 4871, 5793, 6889, 8192, 9742, 11585, 13777, 16384, 19484, 23170, 27554, 32768, 38968, 46341, 55109, 65536, 77936, 92682, 110218, 131072, 155872, 185364, 220436, 262144, 311744, 370728, 440872, 524288, 623487, 741455, 881744, 1048576, 1246974, 1482910, 1763488, 2097152, 2493948, 2965821, 3526975, 4194304, 4987896, 5931642, 7053950, 8388608, 9975792, 11863283, 14107901, 16777216, 19951585, 23726566, 28215802, 33554432]
def sz (i : Int) : Int := szT.getD i.toNat 0

theorem exp2_all (N : Nat) : (List.range 101).map (fun (i : Nat) => Rc.exp2.F (N + 1000) (64 * (i : Int))) = szT.map some := by kernel_rfl
theorem sz_bnd : ∀ i : Fin 101, 0 ≤ szT.getD i.val 0 ∧ szT.getD i.val 0 ≤ 33554432 := by decide +kernel

theorem of_all {f : Nat → Option Int} (h : (List.range 101).map f = szT.map some) {i : Nat} (hi : i ≤ 100) : f i = some (szT.getD i 0) := by
  have e := congrArg (fun l => l[i]?) h
  simp only [List.getElem?_map] at e
  have hl : szT.length = 101 := by decide +kernel
  rw [List.getElem?_range (by omega), List.getElem?_eq_getElem (by omega)] at e
  simp only [Option.map_some, Option.some.injEq] at e
  rw [e, List.getD_eq_getElem?_getD, List.getElem?_eq_getElem (by omega)]
  rfl

theorem sz_range {a : Int} (h0 : 0 ≤ a) (h1 : a ≤ 100) : 0 ≤ sz a ∧ sz a ≤ 33554432 := sz_bnd ⟨a.toNat, by omega⟩

section
variable {N : Nat}
theorem esize_F (hN : 1000 ≤ N) (v : Int) : Rc.esize.F N v = some (sz (cl v)) := by
  obtain ⟨k, rfl⟩ : ∃ k, N = k + 1000 := ⟨N - 1000, by omega⟩
  have hc := cl_range v
  have h := of_all (exp2_all k) (i := (cl v).toNat) (by omega)
  rw [show ((cl v).toNat : Int) = cl v by omega] at h
  unfold Rc.esize.F
  rw [eclamp_F, obind_of, i64 (by omega) (by omega), h, obind_of]
  rfl
end
/-! ### Nearest -/
def ds (v i : Int) : Int := if v ≤ sz i then sz i - v else v - sz i
/-- A number far off may be taken nearer. -/
def cut (v : Int) : Int := if v < 0 then 0 else if v > 67108864 then 67108864 else v
section
variable {N : Nat}
end
end Go.Pl
/-
  Layer 20: pieces, their shares of the bits, and how many pulses these tell: both books alike.
  Conditions: none.
-/
namespace Go.Pl
open Go.Eng Go.Proofs

/-! ### Rows by a rule -/
def seqL (f : Nat → Int) : Nat → Nat → List Int
  | _, 0 => []
  | i, m + 1 => f i :: seqL f (i + 1) m
theorem seqL_len (f : Nat → Int) : ∀ (m i : Nat), (seqL f i m).length = m
  | 0, _ => rfl
  | m + 1, i => by simp [seqL, seqL_len f m]
theorem seqL_get (f : Nat → Int) : ∀ (m i j : Nat), j < m → (seqL f i m).getD j 0 = f (i + j)
  | 0, _, _, h => by omega
  | m + 1, i, 0, _ => by simp [seqL]
  | m + 1, i, j + 1, h => by
    have := seqL_get f m (i + 1) j (by omega)
    simp only [seqL, List.getD_cons_succ]
    rw [this, show i + 1 + j = i + (j + 1) by omega]

/-! ### Pieces -/
def pN (n : Int) : Nat := ((n + 15) / 16).toNat
def pcv (n : Int) (i : Nat) : Int := ((i : Int) + 1) * n / pN n - (i : Int) * n / pN n
def pcs (n : Int) : List Int := seqL (pcv n) 0 (pN n)
theorem pN_range {n : Int} (h0 : 1 ≤ n) (h1 : n ≤ 1000) : 1 ≤ pN n ∧ pN n ≤ 63 ∧ (pN n : Int) = (n + 15) / 16 := by unfold pN; omega
theorem pc_small {n : Int} (h0 : 1 ≤ n) (h1 : n ≤ 1000) {i : Nat} (hi : i ≤ 63) : 0 ≤ (i : Int) * n ∧ (i : Int) * n ≤ 63000 := by
  have a := Int.mul_le_mul (show (i : Int) ≤ 63 by omega) h1 (by omega) (by omega)
  have b := Int.mul_nonneg (show (0 : Int) ≤ i by omega) (show 0 ≤ n by omega)
  omega
theorem pc_div {n : Int} (h0 : 1 ≤ n) (h1 : n ≤ 1000) (i : Nat) : (i : Int) * n / pN n + 1 ≤ ((i : Int) + 1) * n / pN n ∧ ((i : Int) + 1) * n / pN n ≤ (i : Int) * n / pN n + 16 := by
  obtain ⟨p0, _, p2⟩ := pN_range h0 h1
  have e : ((i : Int) + 1) * n = i * n + n := by grind
  rw [e]
  generalize (i : Int) * n = x
  generalize (pN n : Int) = p at *
  have q1 := Int.mul_ediv_add_emod x p
  have q2 := Int.emod_nonneg x (show p ≠ 0 by omega)
  have q3 := Int.emod_lt_of_pos x (show 0 < p by omega)
  constructor
  · rw [Int.le_ediv_iff_mul_le (by omega)]
    have : (x / p + 1) * p = p * (x / p) + p := by grind
    omega
  · have : (x + n) / p < x / p + 17 := by
      rw [Int.ediv_lt_iff_lt_mul (by omega)]
      have : (x / p + 17) * p = p * (x / p) + 17 * p := by grind
      omega
    omega
theorem pcv_range {n : Int} (h0 : 1 ≤ n) (h1 : n ≤ 1000) (i : Nat) : 1 ≤ pcv n i ∧ pcv n i ≤ 16 := by
  have := pc_div h0 h1 i
  unfold pcv
  omega

section
variable {N : Nat}
theorem apieces_F {n : Int} (h0 : 1 ≤ n) (h1 : n ≤ 1000) : Rc.apieces.F N n = some (pN n : Int) := by
  unfold Rc.apieces.F
  simp only [br_dec]
  obtain ⟨p0, _, p2⟩ := pN_range h0 h1
  rw [if_neg (by omega), if_neg (by omega), i64 (x := n + 16) (by omega) (by omega), i64 (x := n + 16 - 1) (by omega) (by omega), tdiv_ediv (by omega), i64 (by omega) (by omega), p2, show n + 16 - 1 = n + 15 by omega]
theorem pcs_step {n : Int} (h0 : 1 ≤ n) (h1 : n ≤ 1000) {i : Nat} (hi : i < 63) :
    IntKind.i64.wrap (IntKind.i64.wrap ((IntKind.i64.wrap (IntKind.i64.wrap ((i : Int) + 1) * n)).tdiv (pN n : Int)) - IntKind.i64.wrap ((IntKind.i64.wrap ((i : Int) * n)).tdiv (pN n : Int))) = pcv n i := by
  have a := pc_small h0 h1 (i := i) (by omega)
  have b := pc_small h0 h1 (i := i + 1) (by omega)
  rw [show ((i + 1 : Nat) : Int) = (i : Int) + 1 by omega] at b
  obtain ⟨p0, _, _⟩ := pN_range h0 h1
  have d1 := Int.ediv_nonneg a.1 (show (0 : Int) ≤ pN n by omega)
  have d2 := Int.ediv_nonneg b.1 (show (0 : Int) ≤ pN n by omega)
  have d3 := Int.ediv_le_self (pN n : Int) a.1
  have d4 := Int.ediv_le_self (pN n : Int) b.1
  rw [i64 (x := (i : Int) + 1) (by omega) (by omega), i64 (x := ((i : Int) + 1) * n) (by omega) (by omega), i64 (x := (i : Int) * n) (by omega) (by omega), tdiv_ediv b.1, tdiv_ediv a.1, i64 (x := ((i : Int) + 1) * n / pN n) (by omega) (by omega), i64 (x := (i : Int) * n / pN n) (by omega) (by omega), i64 (x := ((i : Int) + 1) * n / pN n - (i : Int) * n / pN n) (by omega) (by omega)]
  rfl
theorem aPieces_loop {n : Int} (h0 : 1 ≤ n) (h1 : n ≤ 1000) : ∀ (nn m i : Nat) (A : List Int), i + m = pN n → A.length ≤ 100 + i → m < nn →
    Rc.aPieces.loop4 N nn n (pN n) (pN n) i A = some (A ++ seqL (pcv n) i m)
  | 0, _, _, _, _, _, h => by omega
  | nn + 1, 0, i, A, hi, hA, h => by
    unfold Rc.aPieces.loop4
    simp only [br_dec]
    rw [if_neg (by omega)]
    simp [seqL]
  | nn + 1, m + 1, i, A, hi, hA, h => by
    obtain ⟨p0, p1, _⟩ := pN_range h0 h1
    unfold Rc.aPieces.loop4
    simp only [br_dec, chkI_same]
    rw [if_pos (by omega), chk_pos (by omega), chk_pos (by omega), pcs_step h0 h1 (by omega), chk_pos (by simp; omega), i64 (x := (i : Int) + 1) (by omega) (by omega)]
    have ih := aPieces_loop h0 h1 nn m (i + 1) (A ++ [pcv n i]) (by omega) (by simp; omega) (by omega)
    rw [show ((i + 1 : Nat) : Int) = (i : Int) + 1 by omega] at ih
    rw [ih]
    simp [seqL]
theorem aPieces_F {n : Int} (h0 : 1 ≤ n) (h1 : n ≤ 1000) (hN : 100 ≤ N) : Rc.aPieces.F N n = some (pcs n) := by
  obtain ⟨p0, p1, _⟩ := pN_range h0 h1
  unfold Rc.aPieces.F
  have h := aPieces_loop (N := N) h0 h1 N (pN n) 0 [] (by omega) (by simp) (by omega)
  rw [show ((0 : Nat) : Int) = 0 from rfl, List.nil_append] at h
  rw [apieces_F h0 h1, obind_of, h, obind_of]
  rfl
/-! ### Shares -/
def spv (n b : Int) (i : Nat) : Int := if (i : Int) < b % pN n then b / pN n + 1 else b / pN n
def spl (n b : Int) : List Int := seqL (spv n b) 0 (pN n)
theorem asplit_loop {n b : Int} (h0 : 1 ≤ n) (h1 : n ≤ 1000) (b0 : 0 ≤ b) (b1 : b ≤ 1048576) : ∀ (nn m i : Nat) (A : List Int), i + m = pN n → A.length ≤ 100 + i → m < nn →
    Rc.asplit.loop5 N nn b (pN n) (pN n) i A = some (A ++ seqL (spv n b) i m)
  | 0, _, _, _, _, _, h => by omega
  | nn + 1, 0, i, A, hi, hA, h => by
    unfold Rc.asplit.loop5
    simp only [br_dec]
    rw [if_neg (by omega)]
    simp [seqL]
  | nn + 1, m + 1, i, A, hi, hA, h => by
    obtain ⟨p0, p1, _⟩ := pN_range h0 h1
    have d1 := Int.ediv_nonneg b0 (show (0 : Int) ≤ pN n by omega)
    have d3 := Int.ediv_le_self (pN n : Int) b0
    have ih := asplit_loop h0 h1 b0 b1 nn m (i + 1) (A ++ [spv n b i]) (by omega) (by simp; omega) (by omega)
    rw [show ((i + 1 : Nat) : Int) = (i : Int) + 1 by omega] at ih
    unfold Rc.asplit.loop5
    simp only [br_dec, chkI_same]
    rw [if_pos (by omega), chk_pos (by omega), chk_pos (by omega), tmod_emod b0, tdiv_ediv b0, i64 (x := b / pN n) (by omega) (by omega), i64 (x := b / pN n + 1) (by omega) (by omega), i64 (x := (i : Int) + 1) (by omega) (by omega)]
    by_cases c : (i : Int) < b % pN n
    · have hv : spv n b i = b / pN n + 1 := if_pos c
      rw [hv] at ih
      rw [if_pos c, chk_pos (by simp; omega), ih]
      simp [seqL, hv]
    · have hv : spv n b i = b / pN n := if_neg c
      rw [hv] at ih
      rw [if_neg c, chk_pos (by simp; omega), ih]
      simp [seqL, hv]
theorem asplit_F {n b : Int} (h0 : 1 ≤ n) (h1 : n ≤ 1000) (b0 : 0 ≤ b) (b1 : b ≤ 1048576) (hN : 100 ≤ N) : Rc.asplit.F N n b = some (spl n b) := by
  obtain ⟨p0, p1, _⟩ := pN_range h0 h1
  unfold Rc.asplit.F
  have h := asplit_loop (N := N) h0 h1 b0 b1 N (pN n) 0 [] (by omega) (by simp) (by omega)
  rw [show ((0 : Nat) : Int) = 0 from rfl, List.nil_append] at h
  rw [apieces_F h0 h1, obind_of, if_neg (show ¬ (0 : Int) > b by omega), if_neg (by omega), h, obind_of]
  rfl
end

/-! ### Pulses -/
theorem cnt_mono1 (n k : Nat) : cnt (n + 1) k ≤ cnt (n + 1) (k + 1) := by
  rw [cnt_succ]
  have h1 := (cnt_small (n + 1) k)
  have h2 := (cnt_small n (k + 1))
  have h3 := (cnt_small n k)
  omega
theorem cnt_two (n : Nat) : 2 ≤ cnt (n + 1) 1 := by
  have h2 := (cnt_small n (0 + 1))
  rw [show 1 = 0 + 1 from rfl, cnt_succ, cnt_zero, cnt_zero]
  omega
def tells (n : Nat) (b : Int) (k : Nat) : Prop := bl (cnt n k - 1) ≤ b
theorem tells_down {n : Nat} {b : Int} : ∀ {k : Nat} (d : Nat), tells (n + 1) b (k + d) → tells (n + 1) b k
  | _, 0, h => h
  | k, d + 1, h => by
    refine tells_down d ?_
    unfold tells at *
    have := bl_mono (x := cnt (n + 1) (k + d) - 1) (y := cnt (n + 1) (k + (d + 1)) - 1) (by have := cnt_mono1 n (k + d); rw [show k + d + 1 = k + (d + 1) from rfl] at this; omega)
    omega
def kF (n : Nat) (b : Int) : Nat → Nat → Nat
  | 0, k => k
  | f + 1, k => if bl (cnt n (k + 1) - 1) ≤ b then kF n b f (k + 1) else k
theorem kF_spec (n : Nat) (b : Int) : ∀ (f k : Nat), k ≤ kF n b f k ∧ kF n b f k ≤ k + f ∧ (k < kF n b f k → tells n b (kF n b f k)) ∧ (kF n b f k < k + f → ¬ tells n b (kF n b f k + 1))
  | 0, k => by simp [kF]
  | f + 1, k => by
    simp only [kF]
    by_cases c : bl (cnt n (k + 1) - 1) ≤ b
    · rw [if_pos c]
      obtain ⟨a1, a2, a3, a4⟩ := kF_spec n b f (k + 1)
      refine ⟨by omega, by omega, fun _ => ?_, fun h => a4 (by omega)⟩
      by_cases d : k + 1 < kF n b f (k + 1)
      · exact a3 d
      · rw [show kF n b f (k + 1) = k + 1 by omega]; exact c
    · rw [if_neg c]
      exact ⟨by omega, by omega, fun h => by omega, fun _ => c⟩
/-- How many pulses so many bits tell. -/
def kOf (n : Nat) (b : Int) : Nat := kF n b (mostT n).toNat 0
theorem kOf_eq {n : Nat} {b : Int} {k : Nat} (hk : k ≤ (mostT (n + 1 : Nat)).toNat) (h1 : 0 < k → tells (n + 1) b k) (h2 : k < (mostT (n + 1 : Nat)).toNat → ¬ tells (n + 1) b (k + 1)) : kOf (n + 1) b = k := by
  obtain ⟨_, a2, a3, a4⟩ := kF_spec (n + 1) b (mostT (n + 1 : Nat)).toNat 0
  change kOf (n + 1) b ≤ _ at a2
  change 0 < kOf (n + 1) b → tells (n + 1) b (kOf (n + 1) b) at a3
  change kOf (n + 1) b < _ → ¬ tells (n + 1) b (kOf (n + 1) b + 1) at a4
  rcases Nat.lt_trichotomy (kOf (n + 1) b) k with c | c | c
  · exact absurd (tells_down (k := kOf (n + 1) b + 1) (k - (kOf (n + 1) b + 1)) (by rw [show kOf (n + 1) b + 1 + (k - (kOf (n + 1) b + 1)) = k by omega]; exact h1 (by omega))) (a4 (by omega))
  · exact c
  · exact absurd (tells_down (k := k + 1) (kOf (n + 1) b - (k + 1)) (by rw [show k + 1 + (kOf (n + 1) b - (k + 1)) = kOf (n + 1) b by omega]; exact a3 (by omega))) (h2 (by omega))
theorem kOf_none {n : Nat} {b : Int} (hb : b < 1) : kOf (n + 1) b = 0 := by
  refine kOf_eq (by omega) (fun h => by omega) fun _ h => ?_
  unfold tells at h
  have := cnt_two n
  have h1 := bl_mono (x := 1) (y := cnt (n + 1) 1 - 1) (by omega)
  have : bl 1 = 1 := by decide +kernel
  rw [show (0 : Nat) + 1 = 1 from rfl] at h
  omega

section
variable {N : Nat}
theorem pulses_loop {n : Nat} {b : Int} (n1 : n + 1 ≤ 16) (hN : 3000 ≤ N) : ∀ (nn lo hi : Nat), lo ≤ hi → hi ≤ (mostT (n + 1 : Nat)).toNat → (0 < lo → tells (n + 1) b lo) → (hi < (mostT (n + 1 : Nat)).toNat → ¬ tells (n + 1) b (hi + 1)) → hi - lo < nn →
    Rc.apulses.loop2 N nn (n + 1 : Nat) b lo hi = some (kOf (n + 1) b : Int)
  | 0, _, _, _, _, _, _, h => by omega
  | nn + 1, lo, hi, h0, h1, h2, h3, h => by
    have hm := mostT_range (n + 1 : Nat)
    unfold Rc.apulses.loop2
    simp only [br_dec, chkI_same]
    by_cases c : lo < hi
    · have hmid : IntKind.i64.wrap ((IntKind.i64.wrap (IntKind.i64.wrap ((lo : Int) + hi) + 1)).tdiv 2) = (((lo + hi + 1) / 2 : Nat) : Int) := by
        rw [i64 (x := (lo : Int) + hi) (by omega) (by omega), i64 (x := (lo : Int) + hi + 1) (by omega) (by omega), tdiv_ediv (by omega), i64 (by omega) (by omega)]
        omega
      obtain ⟨m, hmm⟩ : ∃ m, (lo + hi + 1) / 2 = m + 1 := ⟨(lo + hi + 1) / 2 - 1, by omega⟩
      rw [hmm] at hmid
      have hA : cntA (n + 1 : Nat) ((m + 1 : Nat) : Int) = cnt (n + 1) (m + 1) := by
        unfold cntA
        rw [if_pos (by omega), Int.toNat_natCast, Int.toNat_natCast]
      have hs := cnt_small (n + 1) (m + 1)
      have hp := cnt_pos n (m + 1)
      have hl : Rc.flen.F N (cnt (n + 1) (m + 1) - 1) = some (bl (cnt (n + 1) (m + 1) - 1)) := by
        unfold Rc.flen.F
        simp only [br_dec]
        by_cases d : cnt (n + 1) (m + 1) - 1 ≤ 0
        · rw [if_pos d, bl_zero d]
        · rw [if_neg d, u64 (by omega) (by omega), len64_F (by omega) (by omega), obind_of]
      rw [if_pos (by omega), hmid, pcount_F _ _ hN, obind_of, hA, i64 (by omega) (by omega), hl, obind_of]
      by_cases d : bl (cnt (n + 1) (m + 1) - 1) ≤ b
      · rw [if_pos d]
        exact pulses_loop n1 hN nn (m + 1) hi (by omega) h1 (fun _ => d) h3 (by omega)
      · rw [if_neg d, i64 (by omega) (by omega), show ((m + 1 : Nat) : Int) - 1 = (m : Int) by omega]
        exact pulses_loop n1 hN nn lo m (by omega) (by omega) h2 (fun _ => d) (by omega)
    · rw [if_neg (by omega)]
      rw [kOf_eq (k := lo) (by omega) h2 (fun hh => by have := h3 (by omega); rwa [show hi = lo by omega] at this)]
theorem apulses_F {n : Nat} {b : Int} (n0 : 1 ≤ n) (n1 : n ≤ 16) (hN : 3000 ≤ N) : Rc.apulses.F N n b = some (kOf n b : Int) := by
  obtain ⟨m, rfl⟩ : ∃ m, n = m + 1 := ⟨n - 1, by omega⟩
  have hm := mostT_range (m + 1 : Nat)
  unfold Rc.apulses.F
  have h := pulses_loop (N := N) (b := b) n1 hN N 0 (mostT (m + 1 : Nat)).toNat (by omega) (by omega) (fun h => by omega) (fun h => by omega) (by omega)
  rw [show (((mostT (m + 1 : Nat)).toNat : Nat) : Int) = mostT (m + 1 : Nat) by omega, show ((0 : Nat) : Int) = 0 from rfl] at h
  rw [pmost_F _ hN, obind_of, h, obind_of]
end
end Go.Pl
/-
  Layer 17: what is written is read; any bytes are read by both in one way.
  Conditions: none.
-/
namespace Go.Pl
open Go.Eng Go.Proofs
set_option maxRecDepth 100000

section
variable {N : Nat}
theorem new_tell {b : List Int} : (Q.new b).tell (cnew b) = 1 := by
  have e32 : bl 2147483648 = 32 := by decide +kernel
  unfold Q.tell
  rw [cnew_eq, (Q.new_rng b).1, (Q.new_rng b).2, e32]
  rfl

end
end Go.Pl
/-
  Layer 20: a band is read by both books alike; one without bits is quiet noise.
  Conditions: none.
-/
namespace Go.Pl
open Go.Eng Go.Proofs
set_option maxRecDepth 100000

/-- Half the size, rounded up. -/
def hv (e : Int) : Int := (cz (sz (cl e)) + 1) / 2
theorem hn_nat {m : Nat} (h0 : 1 ≤ m) (h1 : m ≤ 16) : hn (m : Int) = m := by
  unfold hn
  rw [if_neg (by omega), if_neg (by omega), Int.toNat_natCast]

section
variable {N : Nat} {b : List Int}
theorem filledN_F {m : Nat} {e s : Int} (m0 : 1 ≤ m) (m1 : m ≤ 16) (hN : 3000 ≤ N) : Rc.filledN.F N m e s = some ((hsh (hv e) m s).2, (hsh (hv e) m s).1) := by
  unfold Rc.filledN.F
  rw [esize_F (by omega), obind_of, shush_F (by omega), obind_of, hn_nat m0 m1]
  rfl

/-- A piece without pulses. -/
theorem rclo_none {from_ e rng val last front back window waiting count s : Int} {bad : Bool} {out : List Int} {m : Nat} (m0 : 1 ≤ m) (m1 : m ≤ 16) (ho : out.length ≤ 100000) (hN : 3000 ≤ N) :
    Rc.rclo.F N from_ m ((0 : Nat) : Int) e rng val last front back window waiting count s bad out b = some (rng, val, last, front, back, window, waiting, count, (hsh (hv e) m s).2, bad, out ++ (hsh (hv e) m s).1) := by
  unfold Rc.rclo.F
  simp only [br_dec, chkI_same, chkL_same]
  rw [if_neg (by omega), filledN_F m0 m1 hN, obind_of, chk_pos (by simp only [hsh_len]; omega)]
end

/-! ### Both go through the pieces -/
section
variable {N : Nat} {b : List Int}
theorem pcs_get {n : Int} {i : Nat} (h : i < pN n) : (pcs n).getD i 0 = pcv n i := by
  have := seqL_get (pcv n) (pN n) 0 i h
  rwa [Nat.zero_add] at this
theorem spl_get {n bb : Int} {i : Nat} (h : i < pN n) : (spl n bb).getD i 0 = spv n bb i := by
  have := seqL_get (spv n bb) (pN n) 0 i h
  rwa [Nat.zero_add] at this
theorem pcs_len (n : Int) : (pcs n).length = pN n := seqL_len _ _ _
theorem spl_len (n bb : Int) : (spl n bb).length = pN n := seqL_len _ _ _

end

end Go.Pl
/-
  Layer 20: a band without bits is quiet noise.
  Conditions: none.
-/
namespace Go.Pl
open Go.Eng Go.Proofs
set_option maxRecDepth 100000

theorem spv_zero (n : Int) (i : Nat) (h : 1 ≤ pN n) : spv n 0 i = 0 := by
  unfold spv
  rw [Int.zero_emod, Int.zero_ediv, if_neg (by omega)]
theorem pc_start {n : Int} (i : Nat) : pcv n i + (i : Int) * n / pN n = ((i + 1 : Nat) : Int) * n / pN n := by
  unfold pcv
  rw [show ((i + 1 : Nat) : Int) = (i : Int) + 1 by omega]
  omega
theorem pc_end {n : Int} (h0 : 1 ≤ n) (h1 : n ≤ 1000) : (pN n : Int) * n / pN n = n := by
  obtain ⟨p0, _, _⟩ := pN_range h0 h1
  rw [Int.mul_ediv_cancel_left _ (by omega)]
def Quiet (v : Int) (l : List Int) : Prop := ∀ x ∈ l, x = v ∨ x = 0 - v

section
variable {N : Nat} {b : List Int}
theorem empties_loop {n e : Int} (h0 : 1 ≤ n) (h1 : n ≤ 1000) (hN : 3000 ≤ N) {rng val last front back window waiting c : Int} {bad : Bool} : ∀ (nn m i : Nat) (from_ s : Int) (out : List Int),
    i + m = pN n → (out.length : Int) = (i : Int) * n / pN n → out.length ≤ 16 * i → Quiet (hv e) out → m < nn →
    ∃ (s' : Int) (out' : List Int), (out'.length : Int) = n ∧ out'.length ≤ 16 * pN n ∧ Quiet (hv e) out' ∧
      Rc.piecesR.loop2 N nn (pN n) e (spl n 0) (pcs n) b from_ i rng val last front back window waiting c s bad out = some (rng, val, last, front, back, window, waiting, c, s', bad, out')
  | 0, _, _, _, _, _, _, _, _, _, h => by omega
  | nn + 1, 0, i, from_, s, out, hi, ho, ho2, hq, h => by
    refine ⟨s, out, ?_, by omega, hq, ?_⟩
    · rw [ho, show i = pN n by omega, pc_end h0 h1]
    · unfold Rc.piecesR.loop2
      simp only [br_dec, chkI_same, chkL_same]
      rw [if_neg (by omega)]
  | nn + 1, m + 1, i, from_, s, out, hi, ho, ho2, hq, h => by
    obtain ⟨p0, p1, _⟩ := pN_range h0 h1
    obtain ⟨r0, r1⟩ := pcv_range h0 h1 i
    have hst := pc_start (n := n) i
    obtain ⟨mm, hmm⟩ : ∃ mm : Nat, pcv n i = mm := ⟨(pcv n i).toNat, by omega⟩
    rw [hmm] at r0 r1 hst
    have hP := pcs_get (n := n) (i := i) (by omega)
    have hS := spl_get (n := n) (bb := 0) (i := i) (by omega)
    rw [hmm] at hP
    rw [spv_zero _ _ p0] at hS
    have hk : kOf mm 0 = 0 := by
      obtain ⟨m', rfl⟩ : ∃ m', mm = m' + 1 := ⟨mm - 1, by omega⟩
      exact kOf_none (by decide)
    have ih := empties_loop (e := e) h0 h1 hN (rng := rng) (val := val) (last := last) (front := front) (back := back) (window := window) (waiting := waiting) (c := c) (bad := bad) nn m (i + 1) (IntKind.i64.wrap (from_ + mm)) (hsh (hv e) mm s).2 (out ++ (hsh (hv e) mm s).1) (by omega) (by rw [List.length_append, hsh_len]; omega) (by rw [List.length_append, hsh_len]; omega) (fun x hx => by
      rcases List.mem_append.1 hx with hx | hx
      · exact hq x hx
      · exact hsh_mem _ _ _ x hx) (by omega)
    rw [show ((i + 1 : Nat) : Int) = (i : Int) + 1 by omega] at ih
    obtain ⟨s', out', g1, g2, g3, g4⟩ := ih
    refine ⟨s', out', g1, g2, g3, ?_⟩
    unfold Rc.piecesR.loop2
    simp only [br_dec, chkI_same, chkL_same, pcs_len, spl_len, Int.toNat_natCast, hP, hS]
    rw [if_pos (by omega), chk_pos (by omega), chk_pos (by omega), apulses_F (by omega) (by omega) hN, obind_of, i64 (x := (i : Int) + 1) (by omega) (by omega), hk, rclo_none (by omega) (by omega) (by omega) hN, obind_of]
    exact g4

theorem empty_loop14 {n v : Int} {l eb : List Int} {en ee es : Int} (hn : (l.length : Int) = n) (hn2 : n ≤ 200) (v0 : 0 ≤ v) (v1 : v ≤ 100000000) (hq : Quiet v l) : ∀ (nn : Nat) (r pre : List Int), l = pre ++ r → r.length < nn →
    Rc.shapeEmpty.loop14 N eb en ee es nn n v l pre.length false = some (.inl false)
  | 0, r, pre, _, h => by omega
  | nn + 1, r, pre, hy, h => by
    unfold Rc.shapeEmpty.loop14
    simp only [br_dec, br_bne, chkL_same, chkI_same]
    have hlen : l.length = pre.length + r.length := by rw [hy, List.length_append]
    cases r with
    | nil => rw [if_neg (by simp at hlen; omega)]
    | cons x r =>
      simp only [List.length_cons] at hlen h
      have hg : l.getD pre.length 0 = x := by rw [hy, get_at]
      have hx := hq x (by rw [hy]; simp)
      have ih := empty_loop14 (eb := eb) (en := en) (ee := ee) (es := es) hn hn2 v0 v1 hq nn r (pre ++ [x]) (by rw [hy]; simp) (by omega)
      rw [show (((pre ++ [x]).length : Nat) : Int) = (pre.length : Int) + 1 by simp] at ih
      rw [if_pos (by omega), chk_pos (by omega), chk_pos (by omega), Int.toNat_natCast, hg, i64 (x := (pre.length : Int) + 1) (by omega) (by omega), i64 (x := 0 - v) (by omega) (by omega), ih]
      by_cases c : x = v
      · rw [if_pos c]
      · rw [if_neg c, if_pos (by omega)]
end

theorem shapeEmpty_pure (b : List Int) (n e seed : Int) (hb : Bytes b) (hl : b.length < 140737488351233) : ∃ N, Rc.shapeEmpty.F N b n e seed = some true := by
  refine ⟨30000, ?_⟩
  unfold Rc.shapeEmpty.F
  rw [awake20_F (by omega), obind_of]
  simp only [br_not, if_true, br_dec, br_bne, br_beq]
  by_cases c1 : n < 2
  · rw [if_pos c1]
  by_cases c2 : n > 200
  · rw [if_neg c1, if_pos c2]
  by_cases c3 : e < 0
  · rw [if_neg c1, if_neg c2, if_pos c3]
  by_cases c4 : e > 100
  · rw [if_neg c1, if_neg c2, if_neg c3, if_pos c4]
  rw [if_neg c1, if_neg c2, if_neg c3, if_neg c4]
  have hq := Q.new_ok hb
  have hc := cnew_range b
  rw [new_F hb hl (by omega), obind_of]
  simp only
  have ht : Rc.tell.F 30000 (Q.new b).rng (Q.new b).val (Q.new b).last (fr b (Q.new b).m) 0 0 0 (cnew b) false b = some 1 := by
    rw [tell_F hq (by omega) (by omega), new_tell]
  obtain ⟨s', out', g1, g2, g3, g4⟩ := empties_loop (N := 30000) (b := b) (n := n) (e := e) (by omega) (by omega) (by omega) (rng := (Q.new b).rng) (val := (Q.new b).val) (last := (Q.new b).last) (front := fr b (Q.new b).m) (back := 0) (window := 0) (waiting := 0) (c := cnew b) (bad := false) 30000 (pN n) 0 0 seed [] (by omega) (by simp) (by simp) (fun x hx => by simp at hx) (by have := pN_range (n := n) (by omega) (by omega); omega)
  rw [show ((0 : Nat) : Int) = 0 from rfl] at g4
  have hR : Rc.sread.F 30000 n 0 e (Q.new b).rng (Q.new b).val (Q.new b).last (fr b (Q.new b).m) 0 0 0 (cnew b) seed false b = some (0, (Q.new b).rng, (Q.new b).val, (Q.new b).last, fr b (Q.new b).m, 0, 0, 0, cnew b, s', false, out') := by
    unfold Rc.sread.F Rc.piecesR.F
    simp only [chkI_same, chkL_same, br_dec]
    rw [if_neg (by omega), if_neg (by omega), if_neg (by omega), if_neg (by omega), asplit_F (by omega) (by omega) (by omega) (by omega) (by omega), obind_of, aPieces_F (by omega) (by omega) (by omega), obind_of, pcs_len, g4, obind_of, obind_of]
  rw [hR, obind_of]
  simp only [if_true]
  rw [if_pos g1, ht, obind_of, if_pos rfl, esize_F (by omega), obind_of]
  by_cases c5 : n.tmod 16 = 1
  · rw [if_pos c5]
  have hcl := cl_range e
  have hsz := sz_range hcl.1 hcl.2
  have hh : IntKind.i64.wrap ((IntKind.i64.wrap (sz (cl e) + 1)).tdiv 2) = hv e := by
    rw [half_wrap hsz.1 hsz.2]
    unfold hv cz
    rw [if_neg (by omega), if_neg (by omega)]
  have hvr : 0 ≤ hv e ∧ hv e ≤ 100000000 := by
    unfold hv
    have := cz_range (sz (cl e))
    omega
  have h14 := empty_loop14 (N := 30000) (eb := b) (en := n) (ee := e) (es := seed) g1 (by omega) hvr.1 hvr.2 g3 30000 out' [] rfl (by omega)
  rw [List.length_nil, show ((0 : Nat) : Int) = 0 from rfl] at h14
  rw [if_neg c5, hh, h14, osum_inl]
end Go.Pl
