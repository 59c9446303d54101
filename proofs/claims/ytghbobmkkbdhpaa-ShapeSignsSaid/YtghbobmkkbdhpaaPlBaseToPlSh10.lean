/-
  Plain words for plain proofs: what the evaluator's marks come to, wraps, bits. Nothing is claimed of the program here.
  Conditions: none.
-/
import Derived.Test.YtghbobmkkbdhpaaEngMkToEngWords
import Derived.Test.YtghbobmkkbdhpaaShapeLaws
import Derived.Test.YtghbobmkkbdhpaaRcFns
import Derived.Test.YtghbobmkkbdhpaaRencFns
set_option linter.unusedVariables false
set_option linter.unusedSimpArgs false
namespace Go.Pl
open Go.Eng
variable {X Y : Type}
theorem br_dec {p : Prop} [Decidable p] (t e : Option Y) : br (decide p) t e = if p then t else e := by
  by_cases h : p <;> simp [br, h]
theorem br_not_dec {p : Prop} [Decidable p] (t e : Option Y) : br (!decide p) t e = if p then e else t := by
  by_cases h : p <;> simp [br, h]
theorem br_not (b : Bool) (t e : Option Y) : br (!b) t e = if b = true then e else t := by cases b <;> rfl
theorem br_bne (a b : Int) (t e : Option Y) : br (a != b) t e = if a = b then e else t := by
  by_cases h : a = b
  · subst h; simp [br]
  · have : (a != b) = true := by simpa using h
    rw [this, if_neg h]; rfl
theorem br_beq (a b : Int) (t e : Option Y) : br (a == b) t e = if a = b then t else e := by
  by_cases h : a = b
  · subst h; simp [br]
  · have : (a == b) = false := by simpa using h
    rw [this, if_neg h]; rfl
theorem chk_pos {c : Prop} [Decidable c] (h : c) (k : Option Y) : chk c k = k := by simp [chk, h]
theorem chkI_same (x : Int) (k : Option Y) : chkI x x k = k := by simp [chkI]
theorem chkL_same (x : List Int) (k : Option Y) : chkL x x k = k := by simp [chkL]
theorem obind_of (x : X) (k : X → Option Y) : obind (some x) k = k x := rfl
theorem osum_inl {Z : Type} (x : X) (k : X → Option Z) : osum (some (Sum.inl x)) k = k x := rfl
theorem osum_inr {Z : Type} (y : Z) (k : X → Option Z) : osum (some (Sum.inr y)) k = some y := rfl
theorem omap_of (x : X) (f : X → Y) : omap (some x) f = some (f x) := rfl
theorem u64 {x : Int} (h0 : 0 ≤ x) (h1 : x < 18446744073709551616) : IntKind.u64.wrap x = x := by
  simp only [IntKind.wrap, IntKind.signed, IntKind.bits, Bool.false_and, Bool.false_eq_true, if_false]
  omega
theorem u32 {x : Int} (h0 : 0 ≤ x) (h1 : x < 4294967296) : IntKind.u32.wrap x = x := by
  simp only [IntKind.wrap, IntKind.signed, IntKind.bits, Bool.false_and, Bool.false_eq_true, if_false]
  omega
theorem u8 {x : Int} (h0 : 0 ≤ x) (h1 : x < 256) : IntKind.u8.wrap x = x := by
  simp only [IntKind.wrap, IntKind.signed, IntKind.bits, Bool.false_and, Bool.false_eq_true, if_false]
  omega
theorem i64 {x : Int} (h0 : -9223372036854775808 ≤ x) (h1 : x < 9223372036854775808) : IntKind.i64.wrap x = x := by
  simp only [IntKind.wrap, IntKind.signed, IntKind.bits, Bool.true_and]
  split
  · rename_i h
    have h := of_decide_eq_true h
    omega
  · rename_i h
    have h : ¬ _ := fun hh => h (decide_eq_true hh)
    omega
theorem u8_mod (x : Int) : IntKind.u8.wrap x = x % 256 := by
  simp only [IntKind.wrap, IntKind.signed, IntKind.bits, Bool.false_and, Bool.false_eq_true, if_false]
  omega
theorem bits_u64 : IntKind.u64.bits = 64 := rfl
theorem bits_i64 : IntKind.i64.bits = 64 := rfl
theorem bits_u8 : IntKind.u8.bits = 8 := rfl
theorem ofInt_toNat {w : Nat} {a : Int} (h0 : 0 ≤ a) (h1 : a < 2 ^ w) : (BitVec.ofInt w a).toNat = a.toNat := by
  rw [BitVec.toNat_ofInt]
  congr 1
  exact Int.emod_eq_of_lt h0 (by exact_mod_cast h1)
theorem and_nn {w : Nat} {a b : Int} (ha : 0 ≤ a) (ha' : a < 2 ^ w) (hb : 0 ≤ b) (hb' : b < 2 ^ w) : ((BitVec.ofInt w a &&& BitVec.ofInt w b).toNat : Int) = ((a.toNat &&& b.toNat : Nat) : Int) := by
  rw [BitVec.toNat_and, ofInt_toNat ha ha', ofInt_toNat hb hb']
theorem or_nn {w : Nat} {a b : Int} (ha : 0 ≤ a) (ha' : a < 2 ^ w) (hb : 0 ≤ b) (hb' : b < 2 ^ w) : ((BitVec.ofInt w a ||| BitVec.ofInt w b).toNat : Int) = ((a.toNat ||| b.toNat : Nat) : Int) := by
  rw [BitVec.toNat_or, ofInt_toNat ha ha', ofInt_toNat hb hb']
theorem and_mask {w k : Nat} {a m : Int} (ha : 0 ≤ a) (ha' : a < 2 ^ w) (hm : m = 2 ^ k - 1) (hk : k ≤ w) : ((BitVec.ofInt w a &&& BitVec.ofInt w m).toNat : Int) = a % 2 ^ k := by
  have h1 : (0 : Int) < 2 ^ k := by exact_mod_cast Nat.two_pow_pos k
  have h2 : (2 : Int) ^ k ≤ 2 ^ w := by exact_mod_cast Nat.pow_le_pow_right (by omega) hk
  rw [and_nn ha ha' (by omega) (by omega)]
  have : m.toNat = 2 ^ k - 1 := by
    rw [hm]
    have : ((2 : Int) ^ k - 1) = ((2 ^ k - 1 : Nat) : Int) := by
      rw [Int.ofNat_sub Nat.one_le_two_pow]
      push_cast
      rfl
    rw [this]; rfl
  rw [this, Nat.and_two_pow_sub_one_eq_mod]
  obtain ⟨n, rfl⟩ := Int.eq_ofNat_of_zero_le ha
  simp
theorem and_mask_any {w k : Nat} (a : Int) {m : Int} (hm : m = 2 ^ k - 1) (hk : k ≤ w) : ((BitVec.ofInt w a &&& BitVec.ofInt w m).toNat : Int) = a % 2 ^ k := by
  have hw : (0 : Int) < 2 ^ w := by exact_mod_cast Nat.two_pow_pos w
  have h : BitVec.ofInt w a = BitVec.ofInt w (a % 2 ^ w) := by
    apply BitVec.eq_of_toNat_eq
    rw [BitVec.toNat_ofInt, BitVec.toNat_ofInt]
    congr 1
    push_cast
    rw [Int.emod_emod]
  rw [h, and_mask (Int.emod_nonneg _ (by omega)) (Int.emod_lt_of_pos _ hw) hm hk]
  exact Int.emod_emod_of_dvd a (by exact_mod_cast Nat.pow_dvd_pow 2 hk)
theorem or_add {w k : Nat} {a b : Int} (ha : 0 ≤ a) (ha' : a * 2 ^ k < 2 ^ w) (hb : 0 ≤ b) (hb' : b < 2 ^ k) (hk : k ≤ w) : ((BitVec.ofInt w (a * 2 ^ k) ||| BitVec.ofInt w b).toNat : Int) = a * 2 ^ k + b := by
  have h1 : (0 : Int) < 2 ^ k := by exact_mod_cast Nat.two_pow_pos k
  have h2 : (2 : Int) ^ k ≤ 2 ^ w := by exact_mod_cast Nat.pow_le_pow_right (by omega) hk
  rw [or_nn (Int.mul_nonneg ha (by omega)) ha' hb (by omega)]
  obtain ⟨n, rfl⟩ := Int.eq_ofNat_of_zero_le ha
  obtain ⟨m, rfl⟩ := Int.eq_ofNat_of_zero_le hb
  have e : (((n : Int) * 2 ^ k)).toNat = 2 ^ k * n := by
    have : ((n : Int) * 2 ^ k) = ((2 ^ k * n : Nat) : Int) := by push_cast; rw [Int.mul_comm]
    rw [this]; rfl
  rw [e]
  have hm : m < 2 ^ k := by exact_mod_cast hb'
  have := Nat.two_pow_add_eq_or_of_lt hm n
  rw [Int.toNat_natCast, ← this]
  push_cast
  rw [Int.mul_comm]
theorem or_comm' {w : Nat} (a b : Int) : ((BitVec.ofInt w a ||| BitVec.ofInt w b).toNat : Int) = ((BitVec.ofInt w b ||| BitVec.ofInt w a).toNat : Int) := by
  rw [BitVec.or_comm]
theorem fdiv_ediv {a b : Int} (h : 0 ≤ b) : a.fdiv b = a / b := Int.fdiv_eq_ediv_of_nonneg a h
theorem tdiv_ediv {a b : Int} (h : 0 ≤ a) : a.tdiv b = a / b := Int.tdiv_eq_ediv_of_nonneg h
theorem tmod_emod {a b : Int} (h : 0 ≤ a) : a.tmod b = a % b := Int.tmod_eq_emod_of_nonneg h
def Bytes (b : List Int) : Prop := ∀ x ∈ b, 0 ≤ x ∧ x < 256
theorem Bytes.get {b : List Int} (h : Bytes b) (i : Nat) : 0 ≤ b.getD i 0 ∧ b.getD i 0 < 256 := by
  rw [List.getD_eq_getElem?_getD]
  cases hb : b[i]? with
  | none => simp
  | some x => simpa using h x (List.mem_of_getElem? hb)
end Go.Pl
/-
  Layer 20: the closed statement: the examples answer as told, by counting through; what each statement's beginning comes to.
  Conditions: none.
-/
namespace Go.Pl
open Go.Eng Go.Proofs
set_option maxRecDepth 100000
theorem awake20_any (N : Nat) : Rc.awake20.F (N + 1000) = some true := by kernel_rfl
theorem awake20_F {N : Nat} (h : 1000 ≤ N) : Rc.awake20.F N = some true := by
  obtain ⟨k, rfl⟩ : ∃ k, N = k + 1000 := ⟨N - 1000, by omega⟩
  exact awake20_any k
end Go.Pl
/-
  Layer 20: noise, number by number.
  Conditions: none.
-/
namespace Go.Pl
open Go.Eng Go.Proofs
def nxt (s : Int) : Int := (s * 1664525 + 1013904223) % 4294967296
def sgv (s : Int) : Int := if nxt s < 2147483648 then 1 else -1
theorem nxt_range (s : Int) : 0 ≤ nxt s ∧ nxt s < 4294967296 := by unfold nxt; omega
theorem sgv_range (s : Int) : sgv s = 1 ∨ sgv s = -1 := by unfold sgv; split <;> simp
def hsh (v : Int) : Nat → Int → List Int × Int
  | 0, s => ([], s)
  | n + 1, s => (sgv s * v :: (hsh v n (nxt s)).1, (hsh v n (nxt s)).2)
theorem hsh_len (v : Int) : ∀ (n : Nat) (s : Int), (hsh v n s).1.length = n
  | 0, _ => rfl
  | n + 1, s => by simp [hsh, hsh_len v n]
theorem hsh_range (v : Int) : ∀ (n : Nat) (s : Int), 0 ≤ s → s < 4294967296 → 0 ≤ (hsh v n s).2 ∧ (hsh v n s).2 < 4294967296
  | 0, s, h0, h1 => ⟨h0, h1⟩
  | n + 1, s, _, _ => hsh_range v n (nxt s) (nxt_range s).1 (nxt_range s).2
section
variable {N : Nat}
theorem wrap32 (x : Int) : IntKind.u32.wrap x = x % 4294967296 := rfl
theorem nnext_F (s : Int) : Rc.nnext.F N s = some (nxt s, nxt s) := by
  unfold Rc.nnext.F
  rw [wrap32, wrap32]
  have : (s * 1664525 % 4294967296 + 1013904223) % 4294967296 = nxt s := by unfold nxt; omega
  rw [this]
theorem nsign_F (s : Int) : Rc.nsign.F N s = some (sgv s, nxt s) := by
  unfold Rc.nsign.F sgv
  rw [nnext_F, obind_of]
  simp only [br_dec]
  split <;> rfl
theorem half_wrap {c : Int} (h0 : 0 ≤ c) (h1 : c ≤ 33554432) : IntKind.i64.wrap ((IntKind.i64.wrap (c + 1)).tdiv 2) = (c + 1) / 2 := by
  rw [i64 (x := c + 1) (by omega) (by omega), tdiv_ediv (by omega), i64 (by omega) (by omega)]
theorem sgv_mul {s v : Int} (v0 : 0 ≤ v) (v1 : v ≤ 100000000) : IntKind.i64.wrap (sgv s * v) = sgv s * v := by
  rcases sgv_range s with h | h
  · rw [h, i64 (by omega) (by omega)]
  · rw [h, i64 (by omega) (by omega)]
theorem shush_loop {c : Int} (h0 : 0 ≤ c) (h1 : c ≤ 33554432) {n : Nat} (hn : n ≤ 1000) : ∀ (nn m : Nat) (A : List Int) (s : Int), A.length + m = n → m < nn →
    Rc.shush.loop6 N nn c n A.length s (A ++ List.replicate m 0) = some ((hsh ((c + 1) / 2) m s).2, A ++ (hsh ((c + 1) / 2) m s).1)
  | 0, m, A, s, _, h => by omega
  | nn + 1, 0, A, s, hA, h => by
    unfold Rc.shush.loop6
    simp only [br_dec]
    rw [if_neg (by omega)]
    simp [hsh]
  | nn + 1, m + 1, A, s, hA, h => by
    unfold Rc.shush.loop6
    simp only [br_dec, chkI_same, Int.toNat_natCast]
    rw [if_pos (by omega), nsign_F, obind_of, chk_pos (by simp; omega), half_wrap h0 h1, sgv_mul (by omega) (by omega), i64 (x := (A.length : Int) + 1) (by omega) (by omega)]
    have hs : (A ++ List.replicate (m + 1) (0 : Int)).set A.length (sgv s * ((c + 1) / 2)) = (A ++ [sgv s * ((c + 1) / 2)]) ++ List.replicate m 0 := by
      rw [List.replicate_succ, List.set_append_right _ _ (Nat.le_refl _)]
      simp
    rw [hs]
    have ih := shush_loop h0 h1 hn nn m (A ++ [sgv s * ((c + 1) / 2)]) (nxt s) (by simp; omega) (by omega)
    rw [List.length_append, List.length_singleton, show ((A.length + 1 : Nat) : Int) = (A.length : Int) + 1 by omega] at ih
    rw [ih]
    simp [hsh]
def cz (v : Int) : Int := if v < 0 then 0 else if v > 33554432 then 33554432 else v
theorem cz_range (v : Int) : 0 ≤ cz v ∧ cz v ≤ 33554432 := by unfold cz; split <;> (try split) <;> omega
theorem clampz (v : Int) : Rc.clamp.F N v 0 33554432 = some (cz v) := by
  unfold Rc.clamp.F cz
  simp only [br_dec]
  rw [if_neg (by omega)]
  split
  · rfl
  · split <;> rfl
def hn (n : Int) : Nat := if n < 1 then 0 else if n > 1000 then 0 else n.toNat
theorem shush_F (hN : 2000 ≤ N) (n size s : Int) : Rc.shush.F N n size s = some ((hsh ((cz size + 1) / 2) (hn n) s).2, (hsh ((cz size + 1) / 2) (hn n) s).1) := by
  unfold Rc.shush.F hn
  simp only [br_dec]
  by_cases c1 : n < 1
  · rw [if_pos c1, if_pos c1]; rfl
  rw [if_neg c1, if_neg c1]
  by_cases c2 : n > 1000
  · rw [if_pos c2, if_pos c2]; rfl
  rw [if_neg c2, if_neg c2, clampz, obind_of, chk_pos (by omega), List.length_replicate]
  have h := shush_loop (N := N) (cz_range size).1 (cz_range size).2 (n := n.toNat) (by omega) N n.toNat [] s (by simp) (by omega)
  rw [List.nil_append, List.nil_append, List.length_nil, show ((0 : Nat) : Int) = 0 from rfl] at h
  rw [h, obind_of]
end
end Go.Pl
/-
  Chapter 3 in plain words: the range decoder's register, and what rc's and ref3's functions come to.
  Conditions: none.
-/
namespace Go.Pl
open Go.Eng Go.Proofs
structure Q where
  rng : Int
  val : Int
  last : Int
  m : Nat
def nb (b : List Int) (m : Nat) : Int := b.getD m 0
theorem nb_range {b : List Int} (h : Bytes b) (m : Nat) : 0 ≤ nb b m ∧ nb b m < 256 := h.get m
def Q.step (b : List Int) (q : Q) : Q := ⟨q.rng * 256, q.val * 256 + 255 - ((q.last * 256 + nb b q.m) / 2) % 256, nb b q.m, q.m + 1⟩
def Q.norm (b : List Int) : Nat → Q → Q
  | 0, q => q
  | n + 1, q => if q.rng ≤ 8388608 then Q.norm b n (q.step b) else q
structure Q.Ok (q : Q) : Prop where
  r0 : 8388608 < q.rng
  r1 : q.rng ≤ 2147483648
  v0 : 0 ≤ q.val
  v1 : q.val < q.rng
  l0 : 0 ≤ q.last
  l1 : q.last < 256
structure Q.Pre (q : Q) : Prop where
  r0 : 1 ≤ q.rng
  r1 : q.rng ≤ 2147483648
  v0 : 0 ≤ q.val
  v1 : q.val < q.rng
  l0 : 0 ≤ q.last
  l1 : q.last < 256
theorem Q.Pre.step {b : List Int} {q : Q} (h : q.Pre) (hb : Bytes b) (hr : q.rng ≤ 8388608) : (q.step b).Pre := by
  obtain ⟨h1, h2, h3, h4, h5, h6⟩ := h
  obtain ⟨h7, h8⟩ := nb_range hb q.m
  exact ⟨by simp only [Q.step]; omega, by simp only [Q.step]; omega, by simp only [Q.step]; omega, by simp only [Q.step]; omega, h7, h8⟩
theorem Q.norm_ok {b : List Int} (hb : Bytes b) : ∀ (n : Nat) (q : Q), q.Pre → 8388608 < q.rng * 256 ^ n → (Q.norm b n q).Ok
  | 0, q, h, hn => ⟨by simpa [Q.norm] using hn, h.r1, h.v0, h.v1, h.l0, h.l1⟩
  | n + 1, q, h, hn => by
    simp only [Q.norm]
    split
    · rename_i hr
      refine Q.norm_ok hb n _ (h.step hb hr) ?_
      simp only [Q.step]
      rw [Int.pow_succ] at hn
      rw [Int.mul_assoc, Int.mul_comm 256]
      exact hn
    · rename_i hr
      exact ⟨by omega, h.r1, h.v0, h.v1, h.l0, h.l1⟩
def Q.on (b : List Int) (q : Q) : Q := Q.norm b 4 q
theorem Q.on_ok {b : List Int} (hb : Bytes b) {q : Q} (h : q.Pre) : (q.on b).Ok := Q.norm_ok hb 4 q h (by have := h.r0; omega)
theorem Q.norm_stop (b : List Int) {q : Q} (h : 8388608 < q.rng) : ∀ n, Q.norm b n q = q
  | 0 => rfl
  | n + 1 => by simp only [Q.norm]; rw [if_neg (by omega)]
theorem p8 : (2 : Int) ^ min (Int.toNat (8 : Int)) IntKind.u64.bits = 256 := rfl
theorem p1 : (2 : Int) ^ min (Int.toNat (1 : Int)) IntKind.u64.bits = 2 := rfl
theorem or8 {a c : Int} (ha : 0 ≤ a) (ha' : a < 72057594037927936) (hc : 0 ≤ c) (hc' : c < 256) : ((BitVec.ofInt 64 (a * 256) ||| BitVec.ofInt 64 c).toNat : Int) = a * 256 + c :=
  or_add (w := 64) (k := 8) ha (by show a * 256 < 18446744073709551616; omega) hc hc' (by omega)
theorem and255 {a : Int} (ha : 0 ≤ a) (ha' : a < 18446744073709551616) : ((BitVec.ofInt 64 a &&& BitVec.ofInt 64 255).toNat : Int) = a % 256 :=
  and_mask (w := 64) (k := 8) ha ha' rfl (by omega)
theorem and31 {a : Int} (ha : 0 ≤ a) (ha' : a < 18446744073709551616) : ((BitVec.ofInt 64 a &&& BitVec.ofInt 64 2147483647).toNat : Int) = a % 2147483648 :=
  and_mask (w := 64) (k := 31) ha ha' rfl (by omega)
def fr (b : List Int) (m : Nat) : Int := ((min m b.length : Nat) : Int)
theorem step_val {val last x : Int} (h0 : 0 ≤ val) (h1 : val < 8388608) (l0 : 0 ≤ last) (l1 : last < 256) (x0 : 0 ≤ x) (x1 : x < 256) :
    IntKind.u64.wrap ↑(BitVec.ofInt IntKind.u64.bits (IntKind.u64.wrap (IntKind.u64.wrap (IntKind.u64.wrap (val * 256) + 255) - IntKind.u64.wrap ↑(BitVec.ofInt IntKind.u64.bits ((IntKind.u64.wrap ↑(BitVec.ofInt IntKind.u64.bits (IntKind.u64.wrap (last * 256)) ||| BitVec.ofInt IntKind.u64.bits x).toNat).fdiv 2) &&& BitVec.ofInt IntKind.u64.bits 255).toNat)) &&& BitVec.ofInt IntKind.u64.bits 2147483647).toNat =
      val * 256 + 255 - ((last * 256 + x) / 2) % 256 := by
  rw [bits_u64, u64 (x := last * 256) (by omega) (by omega), or8 l0 (by omega) x0 x1, u64 (x := last * 256 + x) (by omega) (by omega), fdiv_ediv (by omega), and255 (by omega) (by omega),
    u64 (x := (last * 256 + x) / 2 % 256) (by omega) (by omega), u64 (x := val * 256) (by omega) (by omega), u64 (x := val * 256 + 255) (by omega) (by omega), u64 (x := val * 256 + 255 - _) (by omega) (by omega),
    and31 (by omega) (by omega), u64 (by omega) (by omega)]
  omega
end Go.Pl
/-
  Chapter 3 in plain words: to choose, to take, tables, symbols, flags.
  Conditions: none.
-/
namespace Go.Pl
open Go.Eng Go.Proofs
def Q.ch (q : Q) (ft : Int) : Int := ft - min (q.val / (q.rng / ft) + 1) ft
def Q.tk0 (q : Q) (fl fh ft : Int) : Q := ⟨if fl > 0 then q.rng / ft * (fh - fl) else q.rng - q.rng / ft * (ft - fh), q.val - q.rng / ft * (ft - fh), q.last, q.m⟩
def Q.tk (b : List Int) (q : Q) (fl fh ft : Int) : Q := (q.tk0 fl fh ft).on b
theorem e_facts {r ft : Int} (h0 : 8388608 < r) (f0 : 1 ≤ ft) (f1 : ft ≤ 65536) : 1 ≤ r / ft ∧ r / ft * ft ≤ r ∧ r / ft ≤ r := by
  have h1 := Int.ediv_mul_le r (show ft ≠ 0 by omega)
  have h2 : 1 ≤ r / ft := by
    rw [Int.le_ediv_iff_mul_le (by omega)]
    omega
  refine ⟨h2, h1, ?_⟩
  have : r / ft * 1 ≤ r / ft * ft := Int.mul_le_mul_of_nonneg_left f0 (by omega)
  omega
theorem d_facts {v e : Int} (h0 : 0 ≤ v) (he : 1 ≤ e) : 0 ≤ v / e ∧ v / e * e ≤ v ∧ v < (v / e + 1) * e ∧ v / e ≤ v := by
  have h1 := Int.ediv_mul_le v (show e ≠ 0 by omega)
  have h2 := Int.lt_ediv_add_one_mul_self v (show 0 < e by omega)
  have h3 : 0 ≤ v / e := Int.ediv_nonneg h0 (by omega)
  refine ⟨h3, h1, h2, ?_⟩
  have : v / e * 1 ≤ v / e * e := Int.mul_le_mul_of_nonneg_left he h3
  omega
theorem Q.ch_range {q : Q} (h : q.Ok) {ft : Int} (f0 : 1 ≤ ft) (f1 : ft ≤ 65536) : 0 ≤ q.ch ft ∧ q.ch ft < ft := by
  obtain ⟨e0, _, _⟩ := e_facts h.r0 f0 f1
  obtain ⟨d0, _⟩ := d_facts h.v0 e0
  unfold Q.ch
  omega
structure Takes (q : Q) (fl fh ft : Int) : Prop where
  f0 : 1 ≤ ft
  f1 : ft ≤ 65536
  a : 0 ≤ fl
  b : fl ≤ q.ch ft
  c : q.ch ft < fh
  d : fh ≤ ft
theorem Takes.bounds {q : Q} (h : q.Ok) {fl fh ft : Int} (t : Takes q fl fh ft) :
    0 ≤ q.rng / ft * (ft - fh) ∧ q.rng / ft * (ft - fh) ≤ q.val ∧ q.rng / ft * (ft - fh) ≤ q.rng ∧ 1 ≤ q.rng / ft * (fh - fl) ∧ q.rng / ft * (fh - fl) ≤ q.rng ∧ (fl > 0 → q.val - q.rng / ft * (ft - fh) < q.rng / ft * (fh - fl)) := by
  obtain ⟨f0, f1, ha, hb, hc, hd⟩ := t
  obtain ⟨e0, e1, e2⟩ := e_facts h.r0 f0 f1
  obtain ⟨d0, d1, d2, d3⟩ := d_facts h.v0 e0
  unfold Q.ch at hb hc
  generalize hE : q.rng / ft = E at *
  generalize hD : q.val / E = D at *
  have hv1 := h.v1
  have k1 : 0 ≤ E * (ft - fh) := Int.mul_nonneg (by omega) (by omega)
  have k2 : E * (ft - fh) ≤ E * D := Int.mul_le_mul_of_nonneg_left (by omega) (by omega)
  have k3 : E * D = D * E := Int.mul_comm _ _
  have k4 : E * 1 ≤ E * (fh - fl) := Int.mul_le_mul_of_nonneg_left (by omega) (by omega)
  have k5 : E * (fh - fl) ≤ E * ft := Int.mul_le_mul_of_nonneg_left (by omega) (by omega)
  have k6 : E * (fh - fl) = E * (ft - fl) - E * (ft - fh) := by rw [← Int.mul_sub]; congr 1; omega
  refine ⟨k1, by omega, by omega, by omega, by omega, fun hfl => ?_⟩
  have k7 : (D + 1) * E ≤ E * (ft - fl) := by
    rw [Int.mul_comm]
    exact Int.mul_le_mul_of_nonneg_left (by omega) (by omega)
  omega
theorem Q.tk0_pre {q : Q} (h : q.Ok) {fl fh ft : Int} (t : Takes q fl fh ft) : (q.tk0 fl fh ft).Pre := by
  obtain ⟨k1, k2, k3, k4, k5, k6⟩ := t.bounds h
  have h1 := h.r1
  have h2 := h.v1
  have h3 := h.v0
  refine ⟨?_, ?_, ?_, ?_, h.l0, h.l1⟩
  · simp only [Q.tk0]; split <;> omega
  · simp only [Q.tk0]; split <;> omega
  · simp only [Q.tk0]; omega
  · simp only [Q.tk0]
    split
    · rename_i hf; exact k6 hf
    · omega
theorem Q.tk_ok {b : List Int} (hb : Bytes b) {q : Q} (h : q.Ok) {fl fh ft : Int} (t : Takes q fl fh ft) : (q.tk b fl fh ft).Ok := Q.on_ok hb (q.tk0_pre h t)
section
variable {N : Nat} {front back window waiting count : Int} {bad : Bool} {b : List Int}
end
section
variable {N : Nat} {front back wait waiting count eq : Int} {bad : Bool} {b : List Int}
end
structure GoodT (t : List Int) : Prop where
  n0 : 1 ≤ t.length
  n1 : t.length ≤ 256
  last : t.getD (t.length - 1) 0 = 0
  first : t.getD 0 0 < 256
  down : ∀ k, 1 ≤ k → k < t.length → t.getD k 0 < t.getD (k - 1) 0
theorem GoodT.le {t : List Int} (h : GoodT t) : ∀ (d k : Nat), k + d < t.length → t.getD (k + d) 0 + d ≤ t.getD k 0
  | 0, k, _ => by simp
  | d + 1, k, hk => by
    have h1 := h.le d k (by omega)
    have h2 := h.down (k + (d + 1)) (by omega) hk
    rw [show k + (d + 1) - 1 = k + d by omega] at h2
    omega
theorem GoodT.range {t : List Int} (h : GoodT t) {k : Nat} (hk : k < t.length) : 0 ≤ t.getD k 0 ∧ t.getD k 0 < 256 := by
  have h1 := h.le (t.length - 1 - k) k (by omega)
  have h2 := h.le k 0 (by omega)
  rw [show k + (t.length - 1 - k) = t.length - 1 by omega, h.last] at h1
  rw [Nat.zero_add] at h2
  have := h.first
  omega
section
variable {N : Nat} {back window waiting count : Int} {bad : Bool} {b : List Int}
end
section
variable {N : Nat} {back wait waiting count eq : Int} {bad : Bool} {b : List Int}
end
end Go.Pl
/-
  Chapter 3 in plain words: flags, bits from the end.
  Conditions: none.
-/
namespace Go.Pl
open Go.Eng Go.Proofs
theorem p2le {a b : Nat} (h : a ≤ b) : (2 : Int) ^ a ≤ 2 ^ b := by exact_mod_cast Nat.pow_le_pow_right (by omega) h
theorem p2pos (a : Nat) : (0 : Int) < 2 ^ a := by exact_mod_cast Nat.two_pow_pos a
def Q.fs (q : Q) (n : Int) : Int := q.rng / 2 ^ n.toNat
def Q.f0 (q : Q) (n : Int) : Q := if q.val < q.fs n then ⟨q.fs n, q.val, q.last, q.m⟩ else ⟨q.rng - q.fs n, q.val - q.fs n, q.last, q.m⟩
def Q.fl (b : List Int) (q : Q) (n : Int) : Q := (q.f0 n).on b
section
variable {N : Nat} {back window waiting count : Int} {bad : Bool} {b : List Int}
end
structure W where
  win : Int
  wai : Nat
  k : Nat
def eb (b : List Int) (k : Nat) : Int := if k < b.length then b.getD (b.length - 1 - k) 0 else 0
theorem eb_range {b : List Int} (h : Bytes b) (k : Nat) : 0 ≤ eb b k ∧ eb b k < 256 := by
  unfold eb
  split
  · exact h.get _
  · omega
def W.step (b : List Int) (w : W) : W := ⟨w.win + eb b w.k * 2 ^ w.wai, w.wai + 8, w.k + 1⟩
def W.fill (b : List Int) (n : Nat) : Nat → W → W
  | 0, w => w
  | f + 1, w => if w.wai < n then W.fill b n f (w.step b) else w
structure W.Ok (w : W) : Prop where
  a : 0 ≤ w.win
  b : w.win < 2 ^ w.wai
  c : w.wai ≤ 31
theorem W.Ok.step {b : List Int} (hb : Bytes b) {w : W} (h : w.Ok) (hw : w.wai < 24) : (w.step b).Ok := by
  obtain ⟨h1, h2, h3⟩ := h
  obtain ⟨h4, h5⟩ := eb_range hb w.k
  have h6 := p2pos w.wai
  have h7 : 0 ≤ eb b w.k * 2 ^ w.wai := Int.mul_nonneg h4 (by omega)
  have h8 : eb b w.k * 2 ^ w.wai ≤ 255 * 2 ^ w.wai := Int.mul_le_mul_of_nonneg_right (by omega) (by omega)
  refine ⟨by simp only [W.step]; omega, ?_, by simp only [W.step]; omega⟩
  simp only [W.step]
  rw [Int.pow_add]
  omega
theorem W.fill_n {b : List Int} {n : Nat} : ∀ (f : Nat) (w : W), n ≤ w.wai + 8 * f → n ≤ (W.fill b n f w).wai
  | 0, w, h => by simpa [W.fill] using h
  | f + 1, w, h => by
    simp only [W.fill]
    split
    · exact W.fill_n f _ (by simp only [W.step]; omega)
    · omega
def W.at (b : List Int) (w : W) (n : Nat) : W := W.fill b n 4 w
def W.val (b : List Int) (w : W) (n : Nat) : Int := (w.at b n).win % 2 ^ n
def W.next (b : List Int) (w : W) (n : Nat) : W := ⟨(w.at b n).win / 2 ^ n, (w.at b n).wai - n, (w.at b n).k⟩
theorem W.val_range {b : List Int} (w : W) (n : Nat) : 0 ≤ w.val b n ∧ w.val b n < 2 ^ n :=
  ⟨Int.emod_nonneg _ (by have := p2pos n; omega), Int.emod_lt_of_pos _ (p2pos n)⟩
section
variable {N : Nat} {rng val last front count : Int} {bad : Bool} {b : List Int}
end
end Go.Pl
/-
  Layer 20: both square roots (as in layer 19).
  Conditions: none.
-/
namespace Go.Pl
open Go.Eng Go.Proofs
structure Root (r a : Int) : Prop where
  p : 0 ≤ r
  l : r * r ≤ a
  u : a < (r + 1) * (r + 1)
theorem Root.le {r s a b : Int} (h : Root r a) (g : Root s b) (hab : a ≤ b) : r ≤ s := by
  rcases Int.lt_or_le s r with c | c
  · have h1 := h.l
    have h2 := g.u
    have h3 : (s + 1) * (s + 1) ≤ r * r := Int.mul_le_mul (by omega) (by omega) (by have := g.p; omega) h.p
    omega
  · exact c
theorem Root.eq {r s a : Int} (h : Root r a) (g : Root s a) : r = s := by
  have := h.le g (Int.le_refl _)
  have := g.le h (Int.le_refl _)
  omega
theorem p4 (j : Nat) : (0 : Int) < 4 ^ j := by exact_mod_cast Nat.pow_pos (n := j) (show 0 < 4 by decide)
theorem p4_step (j : Nat) : (4 : Int) ^ (j + 1) = 4 * 4 ^ j := by rw [Int.pow_succ, Int.mul_comm]
theorem p4_le {i j : Nat} (h : i ≤ j) : (4 : Int) ^ i ≤ 4 ^ j := by exact_mod_cast Nat.pow_le_pow_right (by omega) h
section
variable {N : Nat}
theorem fsqrt_loop (a : Int) : ∀ (nn j : Nat) (m rem : Int), j ≤ 31 → 0 ≤ m → 0 ≤ rem → rem + 4 * (m * m) * 4 ^ j = a → rem < (8 * m + 4) * 4 ^ j → a < 4611686018427387904 → j + 1 < nn →
    ∃ r : Int, Rc.fsqrt.loop5 N nn rem (4 * m * 4 ^ j) (4 ^ j) = some r ∧ Root r a
  | 0, _, _, _, _, _, _, _, _, _, h => by omega
  | nn + 1, j, m, rem, hj, hm, hr, ha, hu, hb, h => by
    have hS := p4 j
    have hS2 : (4 : Int) ^ j ≤ 4611686018427387904 := p4_le hj
    generalize hSS : (4 : Int) ^ j = S at hS hS2 ha hu ⊢
    have f0 : 0 ≤ (m * m) * S := Int.mul_nonneg (Int.mul_nonneg hm hm) (by omega)
    have f1 : 0 ≤ m * S := Int.mul_nonneg hm (by omega)
    have e1 : 4 * (m * m) * S = 4 * (m * m * S) := by grind
    have e2 : (8 * m + 4) * S = 8 * (m * S) + 4 * S := by grind
    have e3 : 4 * m * S = 4 * (m * S) := by grind
    have f2 : m * S ≤ m * m * S := by
      rw [Int.mul_assoc m m S]
      rcases Int.lt_or_le m 1 with c | c
      · have : m = 0 := by omega
        subst this; omega
      · have := Int.mul_le_mul_of_nonneg_right c f1
        omega
    rw [e1] at ha
    rw [e2] at hu
    rw [e3]
    unfold Rc.fsqrt.loop5
    simp only [br_dec]
    have d1 : (4 * (m * S)).fdiv ((2 : Int) ^ min (Int.toNat (1 : Int)) IntKind.u64.bits) = 2 * (m * S) := by
      rw [show ((2 : Int) ^ min (Int.toNat (1 : Int)) IntKind.u64.bits) = 2 from rfl, fdiv_ediv (by omega)]; omega
    rw [if_pos (by omega), u64 (x := 4 * (m * S) + S) (by omega) (by omega), d1, show ((2 : Int) ^ min (Int.toNat (2 : Int)) IntKind.u64.bits) = 4 from rfl, fdiv_ediv (a := S) (by omega)]
    have go : ∀ (m' rem' : Int), (m' = 2 * m + 1 ∧ rem' = rem - (4 * (m * S) + S) ∨ m' = 2 * m ∧ rem' = rem ∧ rem < 4 * (m * S) + S) → 0 ≤ rem' →
        ∃ r : Int, Rc.fsqrt.loop5 N nn rem' (m' * S) (S / 4) = some r ∧ Root r a := fun m' rem' hc hr' => by
      have hm' : 0 ≤ m' := by omega
      have g1 : rem' + m' * m' * S = a := by
        rcases hc with ⟨rfl, rfl⟩ | ⟨rfl, rfl, _⟩
        · rw [← ha]; grind
        · rw [← ha]; grind
      have g2 : rem' < (2 * m' + 1) * S := by
        rcases hc with ⟨rfl, rfl⟩ | ⟨rfl, rfl, h3⟩
        · have : (2 * (2 * m + 1) + 1) * S = 4 * (m * S) + 3 * S := by grind
          omega
        · have : (2 * (2 * m) + 1) * S = 4 * (m * S) + S := by grind
          omega
      rcases j with _ | j
      · have : S = 1 := by rw [← hSS]; rfl
        subst this
        rcases nn with _ | nn
        · omega
        refine ⟨m' * 1, ?_, ?_⟩
        · unfold Rc.fsqrt.loop5
          simp only [br_dec]
          rw [if_neg (by decide)]
        · rw [Int.mul_one]
          exact ⟨hm', by omega, by
            have : (m' + 1) * (m' + 1) = m' * m' + (2 * m' + 1) := by grind
            omega⟩
      · rw [p4_step] at hSS
        have hT : S / 4 = 4 ^ j := by omega
        rw [hT]
        have g3 : m' * S = 4 * m' * 4 ^ j := by rw [← hSS]; grind
        rw [g3]
        refine fsqrt_loop a nn j m' rem' (by omega) hm' hr' ?_ ?_ hb (by omega)
        · rw [← g1, ← hSS]; grind
        · rw [← hSS] at g2
          have : (2 * m' + 1) * (4 * 4 ^ j) = (8 * m' + 4) * 4 ^ j := by grind
          omega
    by_cases c : rem ≥ 4 * (m * S) + S
    · rw [if_pos c, u64 (x := rem - (4 * (m * S) + S)) (by omega) (by omega), u64 (x := 2 * (m * S) + S) (by omega) (by omega)]
      have := go (2 * m + 1) (rem - (4 * (m * S) + S)) (Or.inl ⟨rfl, rfl⟩) (by omega)
      rw [show (2 * m + 1) * S = 2 * (m * S) + S by grind] at this
      exact this
    · rw [if_neg c]
      have := go (2 * m) rem (Or.inr ⟨rfl, rfl, by omega⟩) hr
      rw [show 2 * m * S = 2 * (m * S) by grind] at this
      exact this
theorem fsqrt_F {a : Int} (h0 : 0 ≤ a) (h1 : a < 4611686018427387904) (hN : 100 ≤ N) : ∃ r : Int, Rc.fsqrt.F N a = some r ∧ Root r a ∧ r < 4611686018427387904 := by
  obtain ⟨r, e, g⟩ := fsqrt_loop (N := N) a N 31 0 a (by omega) (by omega) h0 (by omega) (by
    have : (4 : Int) ^ 31 = 4611686018427387904 := by decide
    omega) (by omega) (by omega)
  have hb : r < 4611686018427387904 := by
    rcases Int.lt_or_le r 4611686018427387904 with c | c
    · exact c
    · have h2 := g.l
      have h3 : 4611686018427387904 * 1 ≤ r * r := Int.mul_le_mul c (by omega) (by omega) (by omega)
      omega
  have hp := g.p
  refine ⟨r, ?_, g, hb⟩
  unfold Rc.fsqrt.F
  simp only [br_dec]
  rw [if_neg (by omega), u64 h0 (by omega)]
  rw [show (4 : Int) * 0 * 4 ^ 31 = 0 by decide, show (4 : Int) ^ 31 = 4611686018427387904 by decide] at e
  rw [e, obind_of, i64 (by omega) (by omega)]
theorem rsqrt_loop {a : Int} (h0 : 0 ≤ a) (h1 : a < 9223372036854775808) : ∀ (nn j : Nat) (s : Int), j ≤ 32 → 0 ≤ s → s ≤ 3037000499 → s * s ≤ a → a < (s + 2 ^ j) * (s + 2 ^ j) → j < nn →
    ∃ r : Int, Rc.rsqrt.loop3 N nn a s ((j : Int) - 1) = some r ∧ Root r a
  | 0, _, _, _, _, _, _, _, h => by omega
  | nn + 1, j, s, hj, s0, s1, hl, hu, h => by
    unfold Rc.rsqrt.loop3
    simp only [br_dec, chkI_same]
    rcases j with _ | j
    · rw [if_neg (by omega)]
      exact ⟨s, rfl, s0, hl, hu⟩
    · have hP : (2 : Int) ^ j ≤ 2147483648 := by
        have := p2le (show j ≤ 31 by omega)
        exact this
      have hP0 := p2pos j
      have ih := fun s' a1 a2 a3 a4 => rsqrt_loop h0 h1 nn j s' (by omega) a1 a2 a3 a4 (by omega)
      rw [Int.pow_succ] at hu
      rw [if_pos (by omega), show ((j + 1 : Nat) : Int) - 1 = (j : Int) by omega, u64 (x := (j : Int)) (by omega) (by omega), Int.toNat_natCast, show min j IntKind.i64.bits = j by rw [bits_i64]; omega, chk_pos (by omega), i64 (x := (j : Int) - 1) (by omega) (by omega)]
      generalize (2 : Int) ^ j = P at hP hP0 hu ih ⊢
      rw [i64 (x := 1 * P) (by omega) (by omega), i64 (x := s + 1 * P) (by omega) (by omega), show s + 1 * P = s + P by omega]
      by_cases c : s + P ≤ 3037000499
      · have hq : (s + P) * (s + P) ≤ 3037000499 * 3037000499 := Int.mul_le_mul c c (by omega) (by omega)
        have hq0 : 0 ≤ (s + P) * (s + P) := Int.mul_nonneg (by omega) (by omega)
        rw [if_pos c, i64 (x := (s + P) * (s + P)) (by omega) (by omega)]
        by_cases c2 : (s + P) * (s + P) ≤ a
        · rw [if_pos c2]
          exact ih (s + P) (by omega) c c2 (by rw [show s + P + P = s + P * 2 by omega]; exact hu)
        · rw [if_neg c2]
          exact ih s s0 s1 hl (by omega)
      · rw [if_neg c]
        have hq : 3037000500 * 3037000500 ≤ (s + P) * (s + P) := Int.mul_le_mul (by omega) (by omega) (by omega) (by omega)
        exact ih s s0 s1 hl (by omega)
theorem rsqrt_F {a : Int} (h0 : 0 ≤ a) (h1 : a < 9223372036854775808) (hN : 100 ≤ N) : ∃ r : Int, Rc.rsqrt.F N a = some r ∧ Root r a := by
  obtain ⟨r, e, g⟩ := rsqrt_loop (N := N) h0 h1 N 32 0 (by omega) (by omega) (by omega) (by omega) (by
    have : (2 : Int) ^ 32 = 4294967296 := by decide
    rw [this]; omega) (by omega)
  refine ⟨r, ?_, g⟩
  unfold Rc.rsqrt.F
  rw [show (((32 : Nat) : Int) - 1) = 31 from rfl] at e
  rw [e, obind_of]
end
end Go.Pl
/-
  Layer 20: pulses are filled by both books alike.
  Conditions: none.
-/
namespace Go.Pl
open Go.Eng Go.Proofs
theorem down_val {a b : Int} (hb : 0 < b) : (if a.tmod b < 0 then a.tdiv b - 1 else a.tdiv b) = a / b := by
  by_cases h : 0 ≤ a
  · rw [if_neg (by rw [Int.tmod_eq_emod_of_nonneg h]; have := Int.emod_nonneg a (show b ≠ 0 by omega); omega), Int.tdiv_eq_ediv_of_nonneg h]
  · obtain ⟨c, rfl⟩ : ∃ c, a = -c := ⟨-a, by omega⟩
    have hc : 0 ≤ c := by omega
    have h1 := Int.emod_nonneg c (show b ≠ 0 by omega)
    have h2 := Int.emod_lt_of_pos c hb
    have h3 := Int.mul_ediv_add_emod c b
    rw [Int.neg_tmod, Int.neg_tdiv, Int.tmod_eq_emod_of_nonneg hc, Int.tdiv_eq_ediv_of_nonneg hc]
    by_cases d : c % b = 0
    · rw [d, if_neg (by decide)]
      have e : -c = b * -(c / b) := by rw [Int.mul_neg]; omega
      rw [e, Int.mul_ediv_cancel_left _ (by omega)]
    · rw [if_pos (by omega)]
      have e1 : b * (-(c / b) - 1) = -(b * (c / b)) - b := by grind
      have e : -c = (b - c % b) + b * (-(c / b) - 1) := by omega
      have hz : (b - c % b) / b = 0 := Int.ediv_eq_zero_of_lt (by omega) (by omega)
      rw [e, Int.add_mul_ediv_left _ _ (by omega), hz]
      omega
section
variable {N : Nat}
theorem sdown_F {a b : Int} (hb : 0 < b) (h0 : -4611686018427387904 ≤ a) (h1 : a ≤ 4611686018427387904) : Rc.sdown.F N a b = some (a / b) := by
  unfold Rc.sdown.F
  have hv := down_val (a := a) hb
  have hq1 : -4611686018427387904 ≤ a.tdiv b ∧ a.tdiv b ≤ 4611686018427387904 := by
    by_cases h : 0 ≤ a
    · rw [Int.tdiv_eq_ediv_of_nonneg h]
      have := Int.ediv_le_self b h
      have := Int.ediv_nonneg h (show 0 ≤ b by omega)
      omega
    · obtain ⟨c, rfl⟩ : ∃ c, a = -c := ⟨-a, by omega⟩
      rw [Int.neg_tdiv, Int.tdiv_eq_ediv_of_nonneg (by omega)]
      have := Int.ediv_le_self b (show 0 ≤ c by omega)
      have := Int.ediv_nonneg (show 0 ≤ c by omega) (show 0 ≤ b by omega)
      omega
  simp only [br_dec]
  rw [chk_pos (by omega), chk_pos (by omega), i64 (x := a.tdiv b) (by omega) (by omega), i64 (x := a.tdiv b - 1) (by omega) (by omega), ← hv]
  split <;> rfl
end
end Go.Pl
/-
  Layer 20's statements stand here in the place of layer 17's.
  Conditions: none.
-/
/-
  Layer 17: how many vectors there are: the program's rows and tables, and its plain twin's, are one.
  Conditions: none.
-/
namespace Go.Pl
open Go.Eng Go.Proofs
set_option maxRecDepth 100000
theorem chkN_same {Y : Type} (x : Nat) (k : Option Y) : chkN x x k = k := by simp [chkN]
theorem chkR_same {Y : Type} (x : List (List Int)) (k : Option Y) : chkR x x k = k := by simp [chkR]
def cstep (f : Nat → Int) : Nat → Int
  | 0 => 1
  | k + 1 => min (f (k + 1) + cstep f k + f k) 4294967296
def cnt : Nat → Nat → Int
  | 0 => fun k => if k = 0 then 1 else 0
  | n + 1 => cstep (cnt n)
def Small (f : Nat → Int) : Prop := ∀ i, 0 ≤ f i ∧ f i ≤ 4294967296
theorem cstep_small {f : Nat → Int} (h : Small f) : Small (cstep f)
  | 0 => by simp only [cstep]; omega
  | k + 1 => by
    have := cstep_small h k
    have := h k
    have := h (k + 1)
    simp only [cstep]
    omega
theorem cnt_small : ∀ n, Small (cnt n)
  | 0 => fun k => by simp only [cnt]; split <;> omega
  | n + 1 => cstep_small (cnt_small n)
theorem cnt_succ (n k : Nat) : cnt (n + 1) (k + 1) = min (cnt n (k + 1) + cnt (n + 1) k + cnt n k) 4294967296 := rfl
theorem cnt_zero (n : Nat) : cnt n 0 = 1 := by cases n <;> rfl
def tabL (f : Nat → Int) (k : Nat) : List Int := (List.range (k + 1)).map f
theorem tabL_len (f : Nat → Int) (k : Nat) : (tabL f k).length = k + 1 := by simp [tabL]
theorem tabL_get (f : Nat → Int) {k i : Nat} (h : i ≤ k) : (tabL f k).getD i 0 = f i := by
  simp [tabL, List.getD_eq_getElem?_getD, List.getElem?_map, List.getElem?_range, show i < k + 1 by omega]
theorem tabL_ext {f : Nat → Int} {k : Nat} {l : List Int} (hl : l.length = k + 1) (h : ∀ i, i ≤ k → l.getD i 0 = f i) : l = tabL f k := by
  apply List.ext_getElem?
  intro i
  rcases Nat.lt_or_ge i (k + 1) with c | c
  · have h1 := h i (by omega)
    have h2 := tabL_get f (k := k) (i := i) (by omega)
    rw [List.getD_eq_getElem?_getD, List.getElem?_eq_getElem (by omega)] at h1
    rw [List.getD_eq_getElem?_getD, List.getElem?_eq_getElem (by rw [tabL_len]; omega)] at h2
    rw [List.getElem?_eq_getElem (by omega), List.getElem?_eq_getElem (by rw [tabL_len]; omega)]
    simp only [Option.getD_some] at h1 h2
    rw [h1, h2]
  · rw [List.getElem?_eq_none (by omega), List.getElem?_eq_none (by rw [tabL_len]; omega)]
theorem getD_set (l : List Int) (j : Nat) (v : Int) (i : Nat) : (l.set j v).getD i 0 = if i = j ∧ j < l.length then v else l.getD i 0 := by
  rw [List.getD_eq_getElem?_getD, List.getElem?_set, List.getD_eq_getElem?_getD]
  by_cases h : j = i
  · subst h
    rw [if_pos rfl]
    by_cases c : j < l.length
    · rw [if_pos c, if_pos ⟨rfl, c⟩]; rfl
    · rw [if_neg c, if_neg (fun h => c h.2), List.getElem?_eq_none (by omega)]
  · rw [if_neg h, if_neg (fun hh => h hh.1.symm)]
theorem start_row (k : Nat) : (List.replicate (k + 1) (0 : Int)).set 0 1 = tabL (cnt 0) k := by
  refine tabL_ext (by simp) fun i hi => ?_
  rw [getD_set]
  simp only [List.length_replicate, cnt]
  by_cases c : i = 0
  · rw [if_pos ⟨c, by omega⟩, if_pos c]
  · rw [if_neg (fun h => c h.1), if_neg c]
    simp [List.getD_eq_getElem?_getD, List.getElem?_replicate]
    split <;> rfl
section
variable {N : Nat}
theorem prow_in {f : Nat → Int} (hf : Small f) {k : Nat} (hk : k ≤ 1000) : ∀ (nn j : Nat) (l : List Int), 1 ≤ j → j ≤ k + 1 → l.length = k + 1 → (∀ i, i < j → l.getD i 0 = cstep f i) → (∀ i, j ≤ i → i ≤ k → l.getD i 0 = f i) → k + 1 - j < nn →
    Rc.prow.loop7 N nn k (f (j - 1)) j l = some (tabL (cstep f) k)
  | 0, j, l, _, _, _, _, _, h => by omega
  | nn + 1, j, l, j1, j2, hl, ha, hb, h => by
    unfold Rc.prow.loop7
    simp only [br_dec, chkI_same]
    by_cases c : j ≤ k
    · have h1 := hb j (Nat.le_refl _) c
      have h2 := ha (j - 1) (by omega)
      have s1 := hf j
      have s2 := cstep_small hf (j - 1)
      have s3 := hf (j - 1)
      have e1 : IntKind.i64.wrap ((j : Int) - 1) = ((j - 1 : Nat) : Int) := by rw [i64 (by omega) (by omega)]; omega
      rw [if_pos (by omega), chk_pos (by omega), chk_pos (by omega), e1, chk_pos (by omega), chk_pos (by omega), Int.toNat_natCast, Int.toNat_natCast, h1, h2]
      rw [i64 (x := f j + cstep f (j - 1)) (by omega) (by omega), i64 (x := f j + cstep f (j - 1) + f (j - 1)) (by omega) (by omega), i64 (x := (j : Int) + 1) (by omega) (by omega)]
      have hv : (if (4294967296 : Int) < f j + cstep f (j - 1) + f (j - 1) then 4294967296 else f j + cstep f (j - 1) + f (j - 1)) = cstep f j := by
        obtain ⟨m, rfl⟩ : ∃ m, j = m + 1 := ⟨j - 1, by omega⟩
        simp only [cstep, Nat.add_sub_cancel]
        split <;> omega
      rw [hv]
      have ih := prow_in hf hk nn (j + 1) (l.set j (cstep f j)) (by omega) (by omega) (by rw [List.length_set]; exact hl) (fun i hi => by
        rw [getD_set]
        by_cases e : i = j
        · rw [if_pos ⟨e, by omega⟩, e]
        · rw [if_neg (fun h => e h.1)]; exact ha i (by omega)) (fun i hi hi2 => by
        rw [getD_set, if_neg (fun h => by omega)]; exact hb i (by omega) hi2) (by omega)
      exact ih
    · rw [if_neg (by omega)]
      obtain rfl : j = k + 1 := by omega
      exact congrArg some (tabL_ext hl fun i hi => ha i (by omega))
theorem prow_out {n k : Nat} (hk : k ≤ 1000) (hN : k + 2 ≤ N) : ∀ (nn i : Nat), i ≤ n → n - i < nn → n < 1000 → Rc.prow.loop4 N nn k n i (tabL (cnt i) k) = some (tabL (cnt n) k)
  | 0, i, _, h, _ => by omega
  | nn + 1, i, hi, h, hn => by
    unfold Rc.prow.loop4
    simp only [br_dec, chkI_same]
    by_cases c : i < n
    · have := prow_in (N := N) (cnt_small i) hk N 1 (tabL (cnt i) k) (by omega) (by omega) (tabL_len _ _) (fun m hm => by
        obtain rfl : m = 0 := by omega
        rw [tabL_get _ (by omega), cnt_zero]; rfl) (fun m _ hm => tabL_get _ hm) (by omega)
      rw [show cnt i (1 - 1) = 1 from cnt_zero i, show ((1 : Nat) : Int) = 1 from rfl] at this
      rw [if_pos (by omega), this, obind_of, i64 (by omega) (by omega)]
      exact prow_out hk hN nn (i + 1) (by omega) (by omega) hn
    · rw [if_neg (by omega)]
      obtain rfl : i = n := by omega
      rfl
theorem prow_F {n k : Nat} (hk : k ≤ 1000) (hn : n < 1000) (hN : 3000 ≤ N) : Rc.prow.F N n k = some (tabL (cnt n) k) := by
  unfold Rc.prow.F
  rw [i64 (x := (k : Int) + 1) (by omega) (by omega), chk_pos (by omega), show ((k : Int) + 1).toNat = k + 1 by omega, chk_pos (by simp), show Int.toNat (0 : Int) = 0 from rfl, start_row]
  have := prow_out (N := N) (n := n) hk (by omega) N 0 (by omega) (by omega) hn
  rw [show ((0 : Nat) : Int) = 0 from rfl] at this
  rw [this, obind_of]
def cntA (n k : Int) : Int := if 1 ≤ n ∧ n ≤ 16 ∧ 0 ≤ k ∧ k ≤ 64 then cnt n.toNat k.toNat else 0
theorem pmay_F (n : Int) : Rc.pmay.F N n = some (decide (1 ≤ n ∧ n ≤ 16)) := by
  unfold Rc.pmay.F
  rw [br_dec]
  by_cases c : n ≥ 1
  · rw [if_pos c]
    congr 1
    by_cases d : n ≤ 16
    · rw [decide_eq_true d, decide_eq_true ⟨c, d⟩]
    · rw [decide_eq_false d, decide_eq_false fun h => d h.2]
  · rw [if_neg c, decide_eq_false fun h => c h.1]
theorem pcount_F (n k : Int) (hN : 3000 ≤ N) : Rc.pcount.F N n k = some (cntA n k) := by
  unfold Rc.pcount.F cntA
  rw [pmay_F, obind_of]
  simp only [br_not_dec, br_dec]
  by_cases c1 : ¬ (1 ≤ n ∧ n ≤ 16)
  · rw [if_neg c1, if_neg (by omega)]
  have c1 : 1 ≤ n ∧ n ≤ 16 := by omega
  by_cases c3 : k < 0
  · rw [if_pos c1, if_pos c3, if_neg (by omega)]
  by_cases c4 : k > 64
  · rw [if_pos c1, if_neg c3, if_pos c4, if_neg (by omega)]
  obtain ⟨m, rfl⟩ := Int.eq_ofNat_of_zero_le (show 0 ≤ n by omega)
  obtain ⟨j, rfl⟩ := Int.eq_ofNat_of_zero_le (show 0 ≤ k by omega)
  rw [if_pos c1, if_neg c3, if_neg c4, if_pos (by omega), prow_F (by omega) (by omega) hN, obind_of, chk_pos (by rw [tabL_len]; omega), Int.toNat_natCast, Int.toNat_natCast, tabL_get _ (Nat.le_refl _)]
def mostT (n : Int) : Int := if 1 ≤ n ∧ n ≤ 16 then [(64 : Int), 64, 64, 64, 64, 64, 53, 36, 27, 22, 18, 16, 15, 13, 12, 12].getD (n - 1).toNat 0 else 0
theorem mostT_tab : ∀ i : Fin 16, 12 ≤ [(64 : Int), 64, 64, 64, 64, 64, 53, 36, 27, 22, 18, 16, 15, 13, 12, 12].getD i.val 0 ∧ [(64 : Int), 64, 64, 64, 64, 64, 53, 36, 27, 22, 18, 16, 15, 13, 12, 12].getD i.val 0 ≤ 64 := by decide +kernel
theorem mostT_range (n : Int) : 0 ≤ mostT n ∧ mostT n ≤ 64 := by
  unfold mostT
  split
  · have := mostT_tab ⟨(n - 1).toNat, by omega⟩; simp only at this; omega
  · omega
def nextR : Int → Int → List Int → List Int
  | _, _, [] => []
  | a, b, x :: r => min (x + a + b) 4294967296 :: nextR (min (x + a + b) 4294967296) x r
def rowC : Nat → List Int
  | 0 => 1 :: List.replicate 64 0
  | n + 1 => match rowC n with
    | [] => []
    | x :: r => 1 :: nextR 1 x r
theorem nextR_len : ∀ (a b : Int) (l : List Int), (nextR a b l).length = l.length
  | _, _, [] => rfl
  | a, b, x :: r => by simp only [nextR, List.length_cons, nextR_len _ _ r]
theorem nextR_get {f : Nat → Int} : ∀ (l : List Int) (j : Nat), (∀ i, i < l.length → l.getD i 0 = f (j + 1 + i)) → ∀ i, i < l.length → (nextR (cstep f j) (f j) l).getD i 0 = cstep f (j + 1 + i)
  | [], j, _, i, h => by simp at h
  | x :: r, j, h, i, hi => by
    have hx : x = f (j + 1) := by have := h 0 (by simp); simpa using this
    have hv : min (x + cstep f j + f j) 4294967296 = cstep f (j + 1) := by rw [hx]; rfl
    simp only [nextR, hv]
    cases i with
    | zero => rfl
    | succ i =>
      have := nextR_get (f := f) r (j + 1) (fun m hm => by
        have := h (m + 1) (by simp; omega)
        rw [show j + 1 + (m + 1) = j + 1 + 1 + m by omega] at this
        simpa using this) i (by simpa using hi)
      rw [hx, show j + 1 + (i + 1) = j + 1 + 1 + i by omega]
      simpa using this
theorem row0 : ∀ i : Fin 65, (rowC 0).getD i.val 0 = cnt 0 i.val := by decide +kernel
theorem rowC_get : ∀ n, (rowC n).length = 65 ∧ ∀ i, i < 65 → (rowC n).getD i 0 = cnt n i
  | 0 => ⟨by decide +kernel, fun i hi => row0 ⟨i, hi⟩⟩
  | n + 1 => by
    obtain ⟨h1, h2⟩ := rowC_get n
    cases hr : rowC n with
    | nil => rw [hr] at h1; simp at h1
    | cons x r =>
      rw [hr] at h1 h2
      have hx : x = cnt n 0 := by have := h2 0 (by omega); simpa using this
      simp only [rowC, hr]
      refine ⟨by simp only [List.length_cons, nextR_len] at h1 ⊢; exact h1, fun i hi => ?_⟩
      cases i with
      | zero => rfl
      | succ i =>
        have := nextR_get (f := cnt n) r 0 (fun m hm => by
          have := h2 (m + 1) (by simp only [List.length_cons] at h1; omega)
          rw [show 0 + 1 + m = m + 1 by omega]
          simpa using this) i (by simp only [List.length_cons] at h1; omega)
        rw [← hx, show 0 + 1 + i = i + 1 by omega] at this
        show (nextR 1 x r).getD i 0 = cnt (n + 1) (i + 1)
        exact this
theorem rowC_tab (n : Nat) : tabL (cnt n) 64 = rowC n := by
  obtain ⟨h1, h2⟩ := rowC_get n
  exact (tabL_ext h1 fun i hi => h2 i (by omega)).symm
def topOf (l : List Int) : Nat → Nat
  | 0 => 0
  | k + 1 => if l.getD (k + 1) 0 ≥ 4294967296 then topOf l k else k + 1
theorem pmost_loop {l : List Int} (hl : l.length = 65) (h0 : l.getD 0 0 < 4294967296) : ∀ (nn k : Nat), k ≤ 64 → k < nn → Rc.pmost.loop5 N nn l k = some ((topOf l k : Nat) : Int)
  | 0, k, _, h => by omega
  | nn + 1, k, hk, h => by
    unfold Rc.pmost.loop5
    simp only [br_dec, chkL_same]
    rw [chk_pos (by omega), Int.toNat_natCast]
    cases k with
    | zero => rw [if_neg (by omega)]; rfl
    | succ k =>
      simp only [topOf]
      by_cases c : l.getD (k + 1) 0 ≥ 4294967296
      · rw [if_pos c, if_pos c, i64 (by omega) (by omega), show ((k + 1 : Nat) : Int) - 1 = (k : Int) by omega]
        exact pmost_loop hl h0 nn k (by omega) (by omega)
      · rw [if_neg c, if_neg c]
theorem tops : ∀ i : Fin 16, ((topOf (rowC (i.val + 1)) 64 : Nat) : Int) = mostT ((i.val : Int) + 1) := by decide +kernel
theorem pmost_F (n : Int) (hN : 3000 ≤ N) : Rc.pmost.F N n = some (mostT n) := by
  unfold Rc.pmost.F
  rw [pmay_F, obind_of]
  simp only [br_not_dec]
  by_cases c : 1 ≤ n ∧ n ≤ 16
  · obtain ⟨m, rfl⟩ := Int.eq_ofNat_of_zero_le (show 0 ≤ n by omega)
    have h := prow_F (N := N) (n := m) (k := 64) (by omega) (by omega) hN
    rw [show ((64 : Nat) : Int) = 64 from rfl] at h
    have hl := pmost_loop (N := N) (l := tabL (cnt m) 64) (tabL_len _ _) (by rw [tabL_get _ (by omega), cnt_zero]; omega) N 64 (by omega) (by omega)
    rw [show ((64 : Nat) : Int) = 64 from rfl] at hl
    have ht := tops ⟨m - 1, by omega⟩
    simp only at ht
    rw [show m - 1 + 1 = m by omega, show (((m - 1 : Nat) : Int) + 1) = (m : Int) by omega, ← rowC_tab] at ht
    rw [if_pos c, h, obind_of, hl, obind_of, ht]
  · rw [if_neg c]
    unfold mostT
    rw [if_neg c]
theorem cnt_pos (n : Nat) : ∀ k, 1 ≤ cnt (n + 1) k
  | 0 => by rw [cnt_zero]; omega
  | k + 1 => by
    have := cnt_pos n k
    have := cnt_small n k
    have := cnt_small n (k + 1)
    rw [cnt_succ]; omega
end
end Go.Pl
/-
  Layer 17: vectors in order: places and vectors undo one another. Nothing of the program here.
  Conditions: none.
-/
namespace Go.Pl
open Go.Eng Go.Proofs
theorem un_down {n k : Nat} (h : cnt (n + 1) (k + 1) < 4294967296) : cnt n (k + 1) < 4294967296 ∧ cnt (n + 1) k < 4294967296 ∧ cnt n k < 4294967296 ∧ cnt (n + 1) (k + 1) = cnt n (k + 1) + cnt (n + 1) k + cnt n k := by
  have hs := cnt_succ n k
  have u1 := cnt_small n (k + 1)
  have u2 := cnt_small n k
  have u3 := cnt_small (n + 1) k
  omega
theorem un_k {n : Nat} : ∀ {k : Nat}, cnt (n + 1) k < 4294967296 → ∀ j, j ≤ k → cnt (n + 1) j < 4294967296
  | 0, h, j, hj => by obtain rfl : j = 0 := by omega
                      exact h
  | k + 1, h, j, hj => by
    rcases Nat.lt_or_ge k j with c | c
    · obtain rfl : j = k + 1 := by omega
      exact h
    · exact un_k (un_down h).2.1 j c
theorem un_n {n k : Nat} (h : cnt (n + 1) k < 4294967296) : cnt n k < 4294967296 := by
  cases k with
  | zero => rw [cnt_zero]; decide
  | succ k => exact (un_down h).1
theorem un_nk {n k : Nat} (h : cnt (n + 1) k < 4294967296) {j : Nat} (hj : j ≤ k) : cnt n j < 4294967296 := un_n (un_k h j hj)
def both (n k s : Nat) : Int := if s = 0 then cnt n k else 2 * cnt n (k - s)
def bs (n k : Nat) : Nat → Int
  | 0 => 0
  | s + 1 => bs n k s + both n k s
def sm (n : Nat) : Nat → Int
  | 0 => 0
  | k + 1 => sm n k + cnt n k
theorem both_nonneg (n k s : Nat) : 0 ≤ both n k s := by
  unfold both
  have := cnt_small n k
  have := cnt_small n (k - s)
  split <;> omega
theorem bs_nonneg (n k : Nat) : ∀ s, 0 ≤ bs n k s
  | 0 => Int.le_refl _
  | s + 1 => by have := bs_nonneg n k s; have := both_nonneg n k s; simp only [bs]; omega
theorem bs_mono (n k : Nat) {s t : Nat} (h : s ≤ t) : bs n k s ≤ bs n k t := by
  obtain ⟨d, rfl⟩ : ∃ d, t = s + d := ⟨t - s, by omega⟩
  clear h
  induction d with
  | zero => exact Int.le_refl _
  | succ d ih => have := both_nonneg n k (s + d); show _ ≤ bs n k (s + d) + both n k (s + d); omega
theorem sum_un {n : Nat} : ∀ {k : Nat}, cnt (n + 1) k < 4294967296 → cnt (n + 1) k = cnt n k + 2 * sm n k
  | 0, _ => by rw [cnt_zero, cnt_zero]; rfl
  | k + 1, h => by
    obtain ⟨_, h2, _, h4⟩ := un_down h
    have := sum_un h2
    simp only [sm]
    omega
theorem bs_sm (n k : Nat) : ∀ s, 1 ≤ s → s ≤ k + 1 → bs n k s = cnt n k + 2 * (sm n k - sm n (k + 1 - s))
  | 0, h, _ => by omega
  | 1, _, _ => by
    show 0 + both n k 0 = _
    unfold both
    rw [if_pos rfl, show k + 1 - 1 = k by omega]; omega
  | s + 2, _, h => by
    have ih := bs_sm n k (s + 1) (by omega) (by omega)
    show bs n k (s + 1) + both n k (s + 1) = _
    rw [ih]
    unfold both
    rw [if_neg (by omega), show k + 1 - (s + 1) = k - (s + 1) + 1 by omega, show k + 1 - (s + 2) = k - (s + 1) by omega]
    simp only [sm]
    omega
theorem bs_all {n k : Nat} (h : cnt (n + 1) k < 4294967296) : bs n k (k + 1) = cnt (n + 1) k := by
  rw [bs_sm n k (k + 1) (by omega) (Nat.le_refl _), sum_un h, show k + 1 - (k + 1) = 0 by omega]
  simp only [sm]
  omega
def fnd (n k : Nat) : Nat → Nat → Int → Nat × Int
  | 0, s, i => (s, i)
  | f + 1, s, i => if i ≥ both n k s then fnd n k f (s + 1) (i - both n k s) else (s, i)
def vec : Nat → Nat → Int → List Int
  | 0, _, _ => []
  | n + 1, k, i =>
    if (fnd n k (k + 1) 0 i).1 > 0 ∧ (fnd n k (k + 1) 0 i).2 ≥ cnt n (k - (fnd n k (k + 1) 0 i).1) then
      -((fnd n k (k + 1) 0 i).1 : Int) :: vec n (k - (fnd n k (k + 1) 0 i).1) ((fnd n k (k + 1) 0 i).2 - cnt n (k - (fnd n k (k + 1) 0 i).1))
    else ((fnd n k (k + 1) 0 i).1 : Int) :: vec n (k - (fnd n k (k + 1) 0 i).1) (fnd n k (k + 1) 0 i).2
def sz1 (y : List Int) : Nat := (y.map Int.natAbs).sum
def ix : List Int → Nat → Int
  | [], _ => 0
  | y :: r, k => bs r.length k y.natAbs + (if y < 0 then cnt r.length (k - y.natAbs) else 0) + ix r (k - y.natAbs)
theorem fnd_spec {n k : Nat} : ∀ (f s : Nat) (i : Int), s + f = k + 1 → 0 ≤ i → i + bs n k s < bs n k (k + 1) →
    s ≤ (fnd n k f s i).1 ∧ (fnd n k f s i).1 ≤ k ∧ 0 ≤ (fnd n k f s i).2 ∧ (fnd n k f s i).2 < both n k (fnd n k f s i).1 ∧ (fnd n k f s i).2 + bs n k (fnd n k f s i).1 = i + bs n k s
  | 0, s, i, h, h0, h1 => by
    obtain rfl : s = k + 1 := by omega
    omega
  | f + 1, s, i, h, h0, h1 => by
    simp only [fnd]
    by_cases c : i ≥ both n k s
    · rw [if_pos c]
      have hb : bs n k (s + 1) = bs n k s + both n k s := rfl
      have := fnd_spec (n := n) (k := k) f (s + 1) (i - both n k s) (by omega) (by omega) (by omega)
      omega
    · rw [if_neg c]
      exact ⟨Nat.le_refl _, by omega, h0, by show i < both n k s; omega, rfl⟩
theorem fnd_eq {n k s : Nat} {i r : Int} (hs : s ≤ k) (h0 : 0 ≤ r) (h1 : r < both n k s) (hi : i = bs n k s + r) (hall : i < bs n k (k + 1)) : fnd n k (k + 1) 0 i = (s, r) := by
  have hbn := bs_nonneg n k s
  obtain ⟨_, a1, a2, a3, a4⟩ := fnd_spec (n := n) (k := k) (k + 1) 0 i (by omega) (by omega) (by show i + 0 < _; omega)
  have z : bs n k 0 = 0 := rfl
  generalize fnd n k (k + 1) 0 i = q at a1 a2 a3 a4
  obtain ⟨t, r'⟩ := q
  simp only at a1 a2 a3 a4
  have ht : t = s := by
    rcases Nat.lt_trichotomy t s with c | c | c
    · have := bs_mono n k (show t + 1 ≤ s from c)
      have e : bs n k (t + 1) = bs n k t + both n k t := rfl
      omega
    · exact c
    · have := bs_mono n k (show s + 1 ≤ t from c)
      have e : bs n k (s + 1) = bs n k s + both n k s := rfl
      omega
  subst ht
  have : r' = r := by omega
  rw [this]
theorem vec_spec : ∀ (n k : Nat) (i : Int), 0 ≤ i → i < cnt n k → cnt n k < 4294967296 → (vec n k i).length = n ∧ sz1 (vec n k i) = k ∧ ix (vec n k i) k = i
  | 0, k, i, h0, h1, _ => by
    have hk : k = 0 ∧ i = 0 := by
      simp only [cnt] at h1
      split at h1 <;> omega
    obtain ⟨rfl, rfl⟩ := hk
    exact ⟨rfl, rfl, rfl⟩
  | n + 1, k, i, h0, h1, hu => by
    have hall := bs_all hu
    obtain ⟨_, a1, a2, a3, a4⟩ := fnd_spec (n := n) (k := k) (k + 1) 0 i (by omega) h0 (by show i + 0 < _; omega)
    have z : bs n k 0 = 0 := rfl
    simp only [vec]
    generalize fnd n k (k + 1) 0 i = q at a1 a2 a3 a4 ⊢
    obtain ⟨s, r⟩ := q
    simp only at a1 a2 a3 a4 ⊢
    have hc := cnt_small n (k - s)
    have hun := un_nk hu (show k - s ≤ k by omega)
    by_cases c : s > 0 ∧ r ≥ cnt n (k - s)
    · rw [if_pos c]
      have hb : both n k s = 2 * cnt n (k - s) := by unfold both; rw [if_neg (by omega)]
      obtain ⟨l1, l2, l3⟩ := vec_spec n (k - s) (r - cnt n (k - s)) (by omega) (by omega) hun
      refine ⟨by simp [l1], ?_, ?_⟩
      · have : sz1 (-(s : Int) :: vec n (k - s) (r - cnt n (k - s))) = s + sz1 (vec n (k - s) (r - cnt n (k - s))) := by simp [sz1]
        omega
      · simp only [ix, l1, Int.natAbs_neg, Int.natAbs_natCast]
        rw [if_pos (by omega), l3]
        omega
    · rw [if_neg c]
      have hb : r < cnt n (k - s) := by
        rcases Nat.eq_zero_or_pos s with d | d
        · subst d
          unfold both at a3
          rw [if_pos rfl] at a3
          exact a3
        · rcases Int.lt_or_le r (cnt n (k - s)) with e | e
          · exact e
          · exact absurd ⟨d, e⟩ c
      obtain ⟨l1, l2, l3⟩ := vec_spec n (k - s) r (by omega) hb hun
      refine ⟨by simp [l1], ?_, ?_⟩
      · have : sz1 ((s : Int) :: vec n (k - s) r) = s + sz1 (vec n (k - s) r) := by simp [sz1]
        omega
      · simp only [ix, l1, Int.natAbs_natCast]
        rw [if_neg (by omega), l3]
        omega
theorem ix_spec : ∀ (y : List Int) (k : Nat), sz1 y = k → cnt y.length k < 4294967296 → 0 ≤ ix y k ∧ ix y k < cnt y.length k ∧ vec y.length k (ix y k) = y
  | [], k, h, _ => by
    obtain rfl : k = 0 := by simpa [sz1] using h.symm
    simp [ix, vec, cnt]
  | y :: r, k, h, hu => by
    have hsz : sz1 (y :: r) = y.natAbs + sz1 r := by simp [sz1]
    simp only [List.length_cons] at hu ⊢
    have hun := un_nk hu (show k - y.natAbs ≤ k by omega)
    have hall := bs_all hu
    obtain ⟨i0, i1, i2⟩ := ix_spec r (k - y.natAbs) (by omega) hun
    have hbn := bs_nonneg r.length k y.natAbs
    have hm := bs_mono r.length k (show y.natAbs + 1 ≤ k + 1 by omega)
    have he : bs r.length k (y.natAbs + 1) = bs r.length k y.natAbs + both r.length k y.natAbs := rfl
    by_cases c : y < 0
    · have hb : both r.length k y.natAbs = 2 * cnt r.length (k - y.natAbs) := by unfold both; rw [if_neg (by omega)]
      have hix : ix (y :: r) k = bs r.length k y.natAbs + (cnt r.length (k - y.natAbs) + ix r (k - y.natAbs)) := by simp only [ix, if_pos c]; omega
      have hf := fnd_eq (n := r.length) (k := k) (s := y.natAbs) (i := ix (y :: r) k) (r := cnt r.length (k - y.natAbs) + ix r (k - y.natAbs)) (by omega) (by omega) (by omega) hix (by omega)
      refine ⟨by omega, by omega, ?_⟩
      simp only [vec, hf]
      rw [if_pos ⟨by omega, by omega⟩, show cnt r.length (k - y.natAbs) + ix r (k - y.natAbs) - cnt r.length (k - y.natAbs) = ix r (k - y.natAbs) by omega, i2]
      congr 1
      omega
    · have hix : ix (y :: r) k = bs r.length k y.natAbs + ix r (k - y.natAbs) := by simp only [ix, if_neg c]; omega
      have hb : cnt r.length (k - y.natAbs) ≤ both r.length k y.natAbs := by
        unfold both
        split
        · rename_i e; rw [e]; exact Int.le_refl _
        · have := cnt_small r.length (k - y.natAbs); omega
      have hf := fnd_eq (n := r.length) (k := k) (s := y.natAbs) (i := ix (y :: r) k) (r := ix r (k - y.natAbs)) (by omega) (by omega) (by omega) hix (by omega)
      refine ⟨by omega, by omega, ?_⟩
      simp only [vec, hf]
      rw [if_neg (fun h => by omega), i2]
      congr 1
      omega
theorem sz1_zeros : ∀ n, sz1 (List.replicate n (0 : Int)) = 0
  | 0 => rfl
  | n + 1 => by have := sz1_zeros n; simp only [sz1, List.replicate_succ, List.map_cons, List.sum_cons] at this ⊢; omega
def rk (v : Int) : Int := if v > 0 then 2 * v - 1 else -2 * v
theorem most_tab : ∀ i : Fin 16, (rowC (i.val + 1)).getD (mostT ((i.val : Int) + 1)).toNat 0 < 4294967296 := by decide +kernel
theorem un_most {n k : Nat} (h0 : 1 ≤ n) (h1 : n ≤ 16) (hk : (k : Int) ≤ mostT n) : cnt n k < 4294967296 := by
  have hr := mostT_range n
  have ht := most_tab ⟨n - 1, by omega⟩
  simp only at ht
  rw [show n - 1 + 1 = n by omega, show (((n - 1 : Nat) : Int) + 1) = (n : Int) by omega, (rowC_get n).2 _ (by omega)] at ht
  obtain ⟨m, rfl⟩ : ∃ m, n = m + 1 := ⟨n - 1, by omega⟩
  exact un_k ht k (by omega)
end Go.Pl
/-
  Layer 17: the program's tables, vectors and places, and its plain twin's.
  Conditions: none.
-/
namespace Go.Pl
open Go.Eng Go.Proofs
def tabR (n k : Nat) : List (List Int) := (List.range (n + 1)).map fun m => tabL (cnt m) k
theorem tabR_len (n k : Nat) : (tabR n k).length = n + 1 := by simp [tabR]
theorem tabR_get {n k m : Nat} (h : m ≤ n) : (tabR n k).getD m [] = tabL (cnt m) k := by
  simp [tabR, List.getD_eq_getElem?_getD, List.getElem?_map, List.getElem?_range, show m < n + 1 by omega]
theorem tabR_ext {n k : Nat} {l : List (List Int)} (hl : l.length = n + 1) (h : ∀ m, m ≤ n → l.getD m [] = tabL (cnt m) k) : l = tabR n k := by
  apply List.ext_getElem?
  intro i
  rcases Nat.lt_or_ge i (n + 1) with c | c
  · have h1 := h i (by omega)
    have h2 := tabR_get (k := k) (show i ≤ n by omega)
    rw [List.getD_eq_getElem?_getD, List.getElem?_eq_getElem (by omega)] at h1
    rw [List.getD_eq_getElem?_getD, List.getElem?_eq_getElem (by rw [tabR_len]; omega)] at h2
    rw [List.getElem?_eq_getElem (by omega), List.getElem?_eq_getElem (by rw [tabR_len]; omega)]
    simp only [Option.getD_some] at h1 h2
    rw [h1, h2]
  · rw [List.getElem?_eq_none (by omega), List.getElem?_eq_none (by rw [tabR_len]; omega)]
theorem getR_set (l : List (List Int)) (j : Nat) (v : List Int) (i : Nat) : (l.set j v).getD i [] = if i = j ∧ j < l.length then v else l.getD i [] := by
  rw [List.getD_eq_getElem?_getD, List.getElem?_set, List.getD_eq_getElem?_getD]
  by_cases h : j = i
  · subst h
    rw [if_pos rfl]
    by_cases c : j < l.length
    · rw [if_pos c, if_pos ⟨rfl, c⟩]; rfl
    · rw [if_neg c, if_neg (fun h => c h.2), List.getElem?_eq_none (by omega)]
  · rw [if_neg h, if_neg (fun hh => h hh.1.symm)]
section
variable {N : Nat}
theorem table_in {k i : Nat} (hk : k ≤ 1000) (hi : i < 1000) {R : List (List Int)} (hR : R.getD i [] = tabL (cnt i) k) (hRl : i + 1 < R.length) : ∀ (nn j : Nat) (l : List Int), 1 ≤ j → j ≤ k + 1 → l.length = k + 1 → (∀ m, m < j → l.getD m 0 = cnt (i + 1) m) → k + 1 - j < nn →
    Rc.table.loop8 N nn k ((i + 1 : Nat) : Int) ((i + 1 : Nat) : Int) R j l = some (tabL (cnt (i + 1)) k)
  | 0, j, l, _, _, _, _, h => by omega
  | nn + 1, j, l, j1, j2, hl, ha, h => by
    unfold Rc.table.loop8
    simp only [br_dec, chkI_same, chkL_same, chkN_same, chkR_same]
    by_cases c : j ≤ k
    · have h2 := ha (j - 1) (by omega)
      have s1 := cnt_small i j
      have s2 := cnt_small (i + 1) (j - 1)
      have s3 := cnt_small i (j - 1)
      have e1 : IntKind.i64.wrap ((j : Int) - 1) = ((j - 1 : Nat) : Int) := by rw [i64 (by omega) (by omega)]; omega
      have e2 : IntKind.i64.wrap (((i + 1 : Nat) : Int) - 1) = (i : Int) := by rw [i64 (by omega) (by omega)]; omega
      have tl := tabL_len (cnt i) k
      rw [if_pos (by omega), if_pos (by omega), chk_pos (by omega), if_pos trivial, e2, chk_pos (by omega), Int.toNat_natCast, Int.toNat_natCast, if_neg (by omega), hR, chk_pos (by omega), chk_pos (by omega), if_pos trivial, e1, chk_pos (by omega), chk_pos (by omega), if_neg (by omega), chk_pos (by omega), chk_pos (by omega), Int.toNat_natCast, Int.toNat_natCast, h2, tabL_get _ c, tabL_get _ (i := j - 1) (by omega)]
      rw [i64 (x := cnt i j + cnt (i + 1) (j - 1)) (by omega) (by omega), i64 (x := cnt i j + cnt (i + 1) (j - 1) + cnt i (j - 1)) (by omega) (by omega), i64 (x := (j : Int) + 1) (by omega) (by omega)]
      have hv : (if (4294967296 : Int) < cnt i j + cnt (i + 1) (j - 1) + cnt i (j - 1) then 4294967296 else cnt i j + cnt (i + 1) (j - 1) + cnt i (j - 1)) = cnt (i + 1) j := by
        obtain ⟨m, rfl⟩ : ∃ m, j = m + 1 := ⟨j - 1, by omega⟩
        rw [cnt_succ]
        simp only [Nat.add_sub_cancel]
        split <;> omega
      rw [hv]
      exact table_in hk hi hR hRl nn (j + 1) (l.set j (cnt (i + 1) j)) (by omega) (by omega) (by rw [List.length_set]; exact hl) (fun m hm => by
        rw [getD_set]
        by_cases e : m = j
        · rw [if_pos ⟨e, by omega⟩, e]
        · rw [if_neg (fun h => e h.1)]; exact ha m (by omega)) (by omega)
    · rw [if_neg (by omega)]
      obtain rfl : j = k + 1 := by omega
      exact congrArg some (tabL_ext hl fun i hi => ha i (by omega))
theorem table_out {n k : Nat} (hk : k ≤ 1000) (hn : n < 1000) (hN : 3000 ≤ N) : ∀ (nn i : Nat) (R : List (List Int)), i ≤ n + 1 → n + 1 - i < nn → R.length = n + 1 → (∀ m, m < i → R.getD m [] = tabL (cnt m) k) →
    Rc.table.loop3 N nn k ((n + 1 : Nat) : Int) i R = some (tabR n k)
  | 0, i, R, _, h, _, _ => by omega
  | nn + 1, i, R, hi, h, hl, ha => by
    unfold Rc.table.loop3
    simp only [br_dec, chkI_same]
    by_cases c : i < n + 1
    · rw [if_pos (by omega), i64 (x := (k : Int) + 1) (by omega) (by omega), chk_pos (by omega), chk_pos (by omega), chk_pos (by omega), if_pos trivial, show ((k : Int) + 1).toNat = k + 1 by omega, chk_pos (by simp), show Int.toNat (0 : Int) = 0 from rfl, start_row, Int.toNat_natCast, Int.toNat_natCast]
      have hin : Rc.table.loop8 N N k (i : Int) (i : Int) R 1 (tabL (cnt 0) k) = some (tabL (cnt i) k) := by
        obtain ⟨M, rfl⟩ : ∃ M, N = M + 1 := ⟨N - 1, by omega⟩
        cases i with
        | zero =>
          unfold Rc.table.loop8
          simp only [br_dec, chkN_same, chkR_same]
          by_cases c : (1 : Int) ≤ k
          · rw [if_pos c, if_neg (by omega)]
          · rw [if_neg c]
        | succ i =>
          have := table_in (N := M + 1) hk (i := i) (by omega) (R := R) (ha i (by omega)) (by omega) (M + 1) 1 (tabL (cnt 0) k) (by omega) (by omega) (tabL_len _ _) (fun m hm => by
            obtain rfl : m = 0 := by omega
            rw [tabL_get _ (by omega)]; rfl) (by omega)
          exact this
      rw [hin, obind_of, i64 (by omega) (by omega)]
      exact table_out hk hn hN nn (i + 1) _ (by omega) (by omega) (by rw [List.length_set]; exact hl) (fun m hm => by
        rw [getR_set]
        by_cases e : m = i
        · rw [if_pos ⟨e, by omega⟩, e]
        · rw [if_neg (fun h => e h.1)]; exact ha m (by omega))
    · rw [if_neg (by omega)]
      exact congrArg some (tabR_ext hl fun m hm => ha m (by omega))
theorem table_F {n k : Nat} (hk : k ≤ 1000) (hn : n < 1000) (hN : 3000 ≤ N) : Rc.table.F N n k = some (tabR n k) := by
  unfold Rc.table.F
  rw [i64 (x := (n : Int) + 1) (by omega) (by omega), chk_pos (by omega), show ((n : Int) + 1).toNat = n + 1 by omega, List.length_replicate]
  have := table_out (N := N) (n := n) (k := k) hk hn hN N 0 (List.replicate (n + 1) []) (by omega) (by omega) (by simp) (fun m hm => by omega)
  rw [show ((0 : Nat) : Int) = 0 from rfl] at this
  rw [this, obind_of]
theorem set_at (pre : List Int) (x v : Int) (r : List Int) : (pre ++ x :: r).set pre.length v = pre ++ v :: r := by
  rw [List.set_append_right _ _ (Nat.le_refl _), Nat.sub_self]; rfl
def VOk (n k i : Int) : Prop := 1 ≤ n ∧ n ≤ 16 ∧ 0 ≤ k ∧ k ≤ mostT n ∧ 0 ≤ i ∧ i < cntA n k
instance (n k i : Int) : Decidable (VOk n k i) := by unfold VOk; exact inferInstance
theorem VOk.un {n k i : Int} (h : VOk n k i) : cntA n k = cnt n.toNat k.toNat ∧ cnt n.toNat k.toNat < 4294967296 ∧ k ≤ 64 := by
  obtain ⟨h1, h2, h3, h4, h5, h6⟩ := h
  have hr := mostT_range n
  refine ⟨by unfold cntA; rw [if_pos (by omega)], un_most (by omega) (by omega) ?_, by omega⟩
  rw [show ((n.toNat : Nat) : Int) = n by omega]; omega
end
end Go.Pl
/-
  Layer 17: places of vectors by the program and its twin; the statements PvqNumbers, PvqOrder, PvqFirst.
  Conditions: none.
-/
namespace Go.Pl
open Go.Eng Go.Proofs
set_option maxRecDepth 100000
def psz (v : Int) : Int := if v < -65 ∨ v > 65 then 65 else v.natAbs
theorem psz_range (v : Int) : 0 ≤ psz v ∧ psz v ≤ 65 := by unfold psz; split <;> omega
def psumL : List Int → Int
  | [] => 0
  | x :: r => psz x + psumL r
theorem psum_range : ∀ y : List Int, 0 ≤ psumL y ∧ psumL y ≤ 65 * y.length
  | [] => by simp [psumL]
  | x :: r => by have := psum_range r; have := psz_range x; simp only [psumL, List.length_cons]; omega
theorem sz1_cons (x : Int) (r : List Int) : sz1 (x :: r) = x.natAbs + sz1 r := by simp [sz1]
theorem psum_small : ∀ y : List Int, psumL y ≤ 64 → psumL y = sz1 y ∧ ∀ x ∈ y, x.natAbs ≤ 64
  | [], _ => ⟨rfl, by simp⟩
  | x :: r, h => by
    have h1 := psum_range r
    have h2 := psz_range x
    simp only [psumL] at h
    obtain ⟨i1, i2⟩ := psum_small r (by omega)
    have hx : psz x = x.natAbs ∧ x.natAbs ≤ 64 := by
      unfold psz at h ⊢
      by_cases c : x < -65 ∨ x > 65
      · rw [if_pos c] at h; omega
      · rw [if_neg c] at h ⊢; omega
    refine ⟨by simp only [psumL, sz1_cons]; omega, fun z hz => ?_⟩
    rcases List.mem_cons.1 hz with rfl | hz
    · exact hx.2
    · exact i2 z hz
theorem sz1_small : ∀ y : List Int, sz1 y ≤ 64 → psumL y = sz1 y ∧ ∀ x ∈ y, x.natAbs ≤ 64
  | [], _ => ⟨rfl, by simp⟩
  | x :: r, h => by
    rw [sz1_cons] at h
    obtain ⟨i1, i2⟩ := sz1_small r (by omega)
    refine ⟨?_, fun z hz => ?_⟩
    · simp only [psumL, sz1_cons]
      unfold psz
      rw [if_neg (by omega)]
      omega
    · rcases List.mem_cons.1 hz with rfl | hz
      · omega
      · exact i2 z hz
theorem get_at (pre : List Int) (x : Int) (r : List Int) : (pre ++ x :: r).getD pre.length 0 = x := by simp [List.getD_eq_getElem?_getD]
section
variable {N : Nat}
theorem psize_F (v : Int) : Rc.psize.F N v = some (psz v) := by
  have hc : Rc.clamp.F N v (-65) 65 = some (if v < -65 then -65 else if v > 65 then 65 else v) := by
    unfold Rc.clamp.F
    simp only [br_dec]
    by_cases c1 : v < -65
    · rw [if_neg (by omega), if_pos c1, if_pos c1]
    by_cases c2 : v > 65
    · rw [if_neg (by omega), if_neg c1, if_pos c2, if_neg c1, if_pos c2]
    · rw [if_neg (by omega), if_neg c1, if_neg c2, if_neg c1, if_neg c2]
  unfold Rc.psize.F psz
  rw [hc, obind_of, obind_of]
  by_cases c1 : v < -65
  · rw [if_pos c1, if_pos (Or.inl c1), i64 (by omega) (by omega)]; rfl
  by_cases c2 : v > 65
  · rw [if_neg c1, if_pos c2, if_pos (Or.inr c2), i64 (by omega) (by omega)]; rfl
  · rw [if_neg c1, if_neg c2, if_neg (show ¬ (v < -65 ∨ v > 65) by omega), i64 (x := 0 - v) (by omega) (by omega)]
    refine congrArg some ?_
    show (if 0 - v > v then 0 - v else v : Int) = (v.natAbs : Int)
    by_cases c3 : 0 - v > v
    · rw [if_pos c3]; omega
    · rw [if_neg c3]; omega
theorem psum_loop {y : List Int} (hl : y.length ≤ 16) : ∀ (nn : Nat) (r pre : List Int) (s : Int), y = pre ++ r → r.length < nn → 0 ≤ s → s ≤ 65 * pre.length →
    Rc.pindex.loop5 N nn y.length y s pre.length = some (s + psumL r)
  | 0, r, pre, s, _, h, _, _ => by omega
  | nn + 1, r, pre, s, hy, h, s0, s1 => by
    unfold Rc.pindex.loop5
    simp only [br_dec, chkL_same, chkI_same]
    have hlen : y.length = pre.length + r.length := by rw [hy, List.length_append]
    cases r with
    | nil => rw [if_neg (by simp at hlen; omega)]; simp [psumL]
    | cons x r =>
      simp only [List.length_cons] at hlen h
      have hx := psz_range x
      have hg : y.getD pre.length 0 = x := by rw [hy, get_at]
      rw [if_pos (by omega), chk_pos (by omega), Int.toNat_natCast, hg, psize_F, obind_of, i64 (x := s + psz x) (by omega) (by omega), i64 (x := (pre.length : Int) + 1) (by omega) (by omega)]
      have := psum_loop hl nn r (pre ++ [x]) (s + psz x) (by rw [hy]; simp) (by omega) (by omega) (by simp; omega)
      rw [show (((pre ++ [x]).length : Nat) : Int) = (pre.length : Int) + 1 by simp] at this
      rw [this]
      simp only [psumL]
      congr 1
      omega
theorem pix_in {n k K : Nat} (hkK : k ≤ K) (hK : K ≤ 64) : ∀ (nn d s : Nat) (at0 : Int), s + d ≤ k + 1 → d < nn → 0 ≤ at0 → at0 ≤ 1099511627776 →
    Rc.pindex.loop17 N nn k ((s + d : Nat) : Int) (tabL (cnt n) K) (at0 + bs n k s) s = some (at0 + bs n k (s + d))
  | 0, d, s, at0, _, h, _, _ => by omega
  | nn + 1, d, s, at0, hd, h, a0, a1 => by
    unfold Rc.pindex.loop17
    simp only [br_dec, chkL_same, chkI_same]
    rcases d with _ | d
    · rw [if_neg (by omega)]; rfl
    · have tl := tabL_len (cnt n) K
      have sm := cnt_small n (k - s)
      have hb0 := bs_nonneg n k s
      have hbb : bs n k s ≤ s * 8589934592 := by
        have : ∀ s, bs n k s ≤ s * 8589934592 := by
          intro s
          induction s with
          | zero => simp [bs]
          | succ s ih =>
            have : both n k s ≤ 8589934592 := by
              unfold both
              have := cnt_small n k
              have := cnt_small n (k - s)
              split <;> omega
            show bs n k s + both n k s ≤ _
            omega
        exact this s
      have e2 : IntKind.i64.wrap ((k : Int) - (s : Int)) = ((k - s : Nat) : Int) := by rw [i64 (by omega) (by omega)]; omega
      have ih := pix_in (n := n) hkK hK nn d (s + 1) at0 (by omega) (by omega) a0 a1
      rw [show s + 1 + d = s + (d + 1) by omega] at ih
      have hb : bs n k (s + 1) = bs n k s + both n k s := rfl
      rw [if_pos (by omega), e2, chk_pos (by omega), Int.toNat_natCast, tabL_get _ (by omega), i64 (x := (s : Int) + 1) (by omega) (by omega), i64 (x := at0 + bs n k s + cnt n (k - s)) (by omega) (by omega)]
      by_cases c : s = 0
      · have hbo : both n k s = cnt n (k - s) := by unfold both; rw [if_pos c, c]; rfl
        rw [if_neg (by omega), show at0 + bs n k s + cnt n (k - s) = at0 + bs n k (s + 1) by omega]
        exact ih
      · have hbo : both n k s = 2 * cnt n (k - s) := by unfold both; rw [if_neg c]
        rw [if_pos (by omega), chk_pos (by omega), i64 (x := at0 + bs n k s + cnt n (k - s) + cnt n (k - s)) (by omega) (by omega), show at0 + bs n k s + cnt n (k - s) + cnt n (k - s) = at0 + bs n k (s + 1) by omega]
        exact ih
theorem pix_loop {y : List Int} {K : Nat} (hl : y.length ≤ 16) (hK : K ≤ 64) (hN : 3000 ≤ N) : ∀ (nn : Nat) (r pre : List Int) (k : Nat) (at0 : Int), y = pre ++ r → r.length < nn → sz1 r = k → k ≤ K → cnt r.length k < 4294967296 → (∀ x ∈ r, x.natAbs ≤ 64) → (True → 0 ≤ at0 ∧ at0 ≤ (pre.length : Int) * 4294967296) →
    Rc.pindex.loop13 N nn y.length y y (tabR y.length K) at0 k pre.length = some (at0 + ix r k)
  | 0, r, pre, k, at0, _, h, _, _, _, _, _ => by omega
  | nn + 1, r, pre, k, at0, hy, h, hk, hkK, hu, hs, a01 => by
    obtain ⟨a0, a1⟩ := a01 trivial
    unfold Rc.pindex.loop13
    simp only [br_dec, chkL_same, chkI_same, chkR_same]
    have hlen : y.length = pre.length + r.length := by rw [hy, List.length_append]
    cases r with
    | nil => rw [if_neg (by simp at hlen; omega)]; simp [ix]
    | cons x r =>
      simp only [List.length_cons] at hlen h hu
      rw [sz1_cons] at hk
      have hx := hs x (by simp)
      have hp : psz x = (x.natAbs : Int) := by unfold psz; rw [if_neg (by omega)]
      have hg : y.getD pre.length 0 = x := by rw [hy, get_at]
      have tr := tabR_len y.length K
      have tl := tabL_len (cnt r.length) K
      have e1 : IntKind.i64.wrap (IntKind.i64.wrap ((y.length : Int) - 1) - (pre.length : Int)) = (r.length : Int) := by
        rw [i64 (x := (y.length : Int) - 1) (by omega) (by omega), i64 (by omega) (by omega)]; omega
      have hun := un_nk hu (show k - x.natAbs ≤ k by omega)
      have hall := bs_all hu
      have hbm := bs_mono r.length k (show x.natAbs ≤ k + 1 by omega)
      have hb0 := bs_nonneg r.length k x.natAbs
      have hin := pix_in (N := N) (n := r.length) hkK hK N x.natAbs 0 at0 (by omega) (by omega) a0 (by omega)
      rw [Nat.zero_add, show bs r.length k 0 = 0 from rfl, Int.add_zero, show ((0 : Nat) : Int) = 0 from rfl] at hin
      have e2 : IntKind.i64.wrap ((k : Int) - (x.natAbs : Int)) = ((k - x.natAbs : Nat) : Int) := by rw [i64 (by omega) (by omega)]; omega
      have sm := cnt_small r.length (k - x.natAbs)
      obtain ⟨i0, i1, _⟩ := ix_spec (x :: r) k (by rw [sz1_cons]; exact hk) hu
      obtain ⟨j0, j1, _⟩ := ix_spec r (k - x.natAbs) (by omega) hun
      rw [if_pos (by omega), chk_pos (by omega), e1, chk_pos (by omega), Int.toNat_natCast, Int.toNat_natCast, hg, psize_F, obind_of, tabR_get (by omega), hp, hin, obind_of, obind_of, e2, i64 (x := (pre.length : Int) + 1) (by omega) (by omega)]
      simp only [List.length_cons] at i1
      simp only [ix] at i0 i1 ⊢
      have next := fun (v : Int) (h0 : 0 ≤ v) (h1 : v ≤ at0 + 4294967296) => pix_loop hl hK hN nn r (pre ++ [x]) (k - x.natAbs) v (by rw [hy]; simp) (by omega) (by omega) (by omega) hun (fun z hz => hs z (by simp [hz])) (fun _ => ⟨h0, by simp; omega⟩)
      simp only [List.length_append, List.length_singleton, Int.natCast_add] at next
      by_cases c : x < 0
      · rw [if_pos c] at i0 i1 ⊢
        rw [if_pos c, chk_pos (by omega), Int.toNat_natCast, tabL_get _ (by omega), i64 (x := at0 + bs r.length k x.natAbs + cnt r.length (k - x.natAbs)) (by omega) (by omega)]
        refine (next _ (by omega) (by omega)).trans ?_
        congr 1
        omega
      · rw [if_neg c] at i0 i1 ⊢
        rw [if_neg c]
        refine (next _ (by omega) (by omega)).trans ?_
        congr 1
        omega
theorem pindex_F (y : List Int) (hN : 3000 ≤ N) : Rc.pindex.F N y = some (if 1 ≤ y.length ∧ y.length ≤ 16 ∧ psumL y ≤ mostT y.length then (psumL y, ix y (sz1 y), 0) else (0, 0, 1)) := by
  unfold Rc.pindex.F
  rw [pmay_F, obind_of]
  simp only [br_not_dec, br_dec]
  by_cases c1 : ¬ (1 ≤ (y.length : Int) ∧ (y.length : Int) ≤ 16)
  · rw [if_neg c1, if_neg (fun h => by omega)]
  have c1 : 1 ≤ (y.length : Int) ∧ (y.length : Int) ≤ 16 := by omega
  have h5 := psum_loop (N := N) (y := y) (by omega) N y [] 0 rfl (by omega) (by omega) (by simp)
  rw [show (([] : List Int).length : Int) = 0 from rfl, Int.zero_add] at h5
  rw [if_pos c1, h5, obind_of, pmost_F _ hN, obind_of]
  by_cases c2 : psumL y > mostT y.length
  · rw [if_pos c2, if_neg (fun h => by omega)]
  have hm := mostT_range y.length
  obtain ⟨s1, s2⟩ := psum_small y (by omega)
  have hu := un_most (n := y.length) (k := sz1 y) (by omega) (by omega) (by omega)
  have h13 := pix_loop (N := N) (y := y) (K := sz1 y) (by omega) (by omega) hN N y [] (sz1 y) 0 rfl (by omega) rfl (Nat.le_refl _) hu s2 (fun _ => ⟨by omega, by simp⟩)
  rw [show (([] : List Int).length : Int) = 0 from rfl, Int.zero_add] at h13
  rw [if_neg c2, if_pos ⟨by omega, by omega, by omega⟩, s1, table_F (by omega) (by omega) hN, obind_of, h13, obind_of]
end
end Go.Pl
/-
  Layer 20: pulses are filled by both books alike; the sum of squares is near.
  Conditions: none.
-/
namespace Go.Pl
open Go.Eng Go.Proofs
def ok64 : List Int → Bool
  | [] => true
  | x :: r => decide (-64 ≤ x ∧ x ≤ 64) && ok64 r
def ssq : List Int → Int
  | [] => 0
  | x :: r => x * x + ssq r
theorem ok64_iff : ∀ y : List Int, ok64 y = true ↔ ∀ x ∈ y, -64 ≤ x ∧ x ≤ 64
  | [] => by simp [ok64]
  | x :: r => by simp [ok64, ok64_iff r]
theorem sq_nonneg (x : Int) : 0 ≤ x * x := by
  rcases Int.le_total 0 x with h | h
  · exact Int.mul_nonneg h h
  · have := Int.mul_nonneg (show 0 ≤ -x by omega) (show 0 ≤ -x by omega)
    rwa [Int.neg_mul_neg] at this
theorem sq64 {x : Int} (h0 : -64 ≤ x) (h1 : x ≤ 64) : x * x ≤ 4096 := by
  have h2 : 0 ≤ (64 - x) * (64 + x) := Int.mul_nonneg (by omega) (by omega)
  have h3 : (64 - x) * (64 + x) = 4096 - x * x := by grind
  omega
theorem ssq_nonneg : ∀ y : List Int, 0 ≤ ssq y
  | [] => Int.le_refl _
  | x :: r => by have := sq_nonneg x; have := ssq_nonneg r; simp only [ssq]; omega
theorem ssq_le : ∀ y : List Int, ok64 y = true → ssq y ≤ 4096 * y.length
  | [], _ => by simp [ssq]
  | x :: r, h => by
    simp only [ok64, Bool.and_eq_true, decide_eq_true_eq] at h
    have := sq64 h.1.1 h.1.2
    have := ssq_le r h.2
    simp only [ssq, List.length_cons]; omega
theorem sq_pos {x : Int} (h : x ≠ 0) : 0 < x * x := by
  rcases Int.lt_or_gt_of_ne h with c | c
  · have := Int.mul_pos (show 0 < -x by omega) (show 0 < -x by omega)
    rwa [Int.neg_mul_neg] at this
  · exact Int.mul_pos c c
theorem ssq_zero : ∀ y : List Int, ssq y = 0 ↔ ∀ x ∈ y, x = 0
  | [] => by simp [ssq]
  | x :: r => by
    have h1 := sq_nonneg x
    have h2 := ssq_nonneg r
    have ih := ssq_zero r
    simp only [ssq, List.mem_cons, forall_eq_or_imp]
    constructor
    · intro h
      refine ⟨?_, ih.1 (by omega)⟩
      by_cases c : x = 0
      · exact c
      · have := sq_pos c; omega
    · rintro ⟨rfl, h⟩
      rw [ih.2 h]; rfl
noncomputable def rt (a : Int) : Int := Classical.epsilon fun r => Root r a
theorem rt_of {r a : Int} (h : Root r a) : rt a = r := (Classical.epsilon_spec (p := fun r => Root r a) ⟨r, h⟩).eq h
def fl (size r t : Int) (y : List Int) : List Int := y.map fun v => size * v * t / r
noncomputable def fillV (size : Int) (y : List Int) : List Int := if ssq y = 0 then List.replicate y.length 0 else fl size (rt (1048576 * ssq y)) (rt (1048576 * y.length)) y
def FillOk (y : List Int) (size : Int) : Prop := 1 ≤ y.length ∧ y.length ≤ 16 ∧ 0 ≤ size ∧ size ≤ 33554432 ∧ ok64 y = true
theorem fillV_len (size : Int) (y : List Int) : (fillV size y).length = y.length := by
  unfold fillV fl
  split <;> simp
theorem root_t {t : Int} {n : Nat} (hn : n ≤ 16) (h : Root t (1048576 * n)) : t ≤ 4096 := by
  rcases Int.lt_or_le 4096 t with c | c
  · have := h.l
    have h2 : 4097 * 4097 ≤ t * t := Int.mul_le_mul c c (by omega) (by omega)
    omega
  · exact c
theorem root_r {r s : Int} (hs : 1 ≤ s) (h : Root r (1048576 * s)) : 1024 ≤ r := by
  rcases Int.lt_or_le r 1024 with c | c
  · have h1 := h.u
    have h3 := h.p
    have h2 : (r + 1) * (r + 1) ≤ 1024 * 1024 := Int.mul_le_mul (by omega) (by omega) (by omega) (by omega)
    omega
  · exact c
theorem fill_mul {size v t : Int} (s0 : 0 ≤ size) (s1 : size ≤ 33554432) (v0 : -64 ≤ v) (v1 : v ≤ 64) (t0 : 0 ≤ t) (t1 : t ≤ 4096) :
    (-2147483648 ≤ size * v ∧ size * v ≤ 2147483648) ∧ (-8796093022208 ≤ size * v * t ∧ size * v * t ≤ 8796093022208) := by
  have a1 : size * v ≤ size * 64 := Int.mul_le_mul_of_nonneg_left v1 s0
  have a2 : size * -64 ≤ size * v := Int.mul_le_mul_of_nonneg_left v0 s0
  have b1 : size * v * t ≤ 2147483648 * t := Int.mul_le_mul_of_nonneg_right (by omega) t0
  have b2 : -2147483648 * t ≤ size * v * t := Int.mul_le_mul_of_nonneg_right (by omega) t0
  omega
section
variable {N : Nat}
theorem sfill_loop5 {y ey : List Int} {es : Int} (hl : y.length ≤ 16) : ∀ (nn : Nat) (r pre : List Int) (s : Int), y = pre ++ r → r.length < nn → 0 ≤ s → s ≤ 4096 * pre.length →
    (ok64 r = true → Rc.sfill.loop5 N nn es ey y.length y 0 s pre.length [] = some (.inl (0, s + ssq r, []))) ∧ (ok64 r = false → Rc.sfill.loop5 N nn es ey y.length y 0 s pre.length [] = some (.inr (1, [])))
  | 0, r, pre, s, _, h, _, _ => by omega
  | nn + 1, r, pre, s, hy, h, s0, s1 => by
    unfold Rc.sfill.loop5
    simp only [br_dec, chkL_same, chkI_same]
    have hlen : y.length = pre.length + r.length := by rw [hy, List.length_append]
    cases r with
    | nil => rw [if_neg (by simp at hlen; omega)]; simp [ssq, ok64]
    | cons x r =>
      simp only [List.length_cons] at hlen h
      have hg : y.getD pre.length 0 = x := by rw [hy, get_at]
      rw [if_pos (by omega), chk_pos (by omega), Int.toNat_natCast, hg]
      simp only [ok64, Bool.and_eq_true, decide_eq_true_eq, Bool.and_eq_false_imp]
      by_cases c1 : x < -64
      · rw [if_pos c1]
        exact ⟨fun hh => by omega, fun _ => rfl⟩
      rw [if_neg c1]
      by_cases c2 : x > 64
      · rw [if_pos c2]
        exact ⟨fun hh => by omega, fun _ => rfl⟩
      have hq := sq64 (x := x) (by omega) (by omega)
      have hq0 := sq_nonneg x
      rw [if_neg c2, i64 (x := x * x) (by omega) (by omega), i64 (x := s + x * x) (by omega) (by omega), i64 (x := (pre.length : Int) + 1) (by omega) (by omega)]
      have ih := sfill_loop5 (ey := ey) (es := es) hl nn r (pre ++ [x]) (s + x * x) (by rw [hy]; simp) (by omega) (by omega) (by simp; omega)
      rw [show (((pre ++ [x]).length : Nat) : Int) = (pre.length : Int) + 1 by simp] at ih
      refine ⟨fun hh => ?_, fun hh => ih.2 (hh (by omega))⟩
      rw [ih.1 hh.2]
      simp only [ssq]
      rw [Int.add_assoc]
theorem sfill_loop16 {y : List Int} {size rr t : Int} (hl : y.length ≤ 16) (s0 : 0 ≤ size) (s1 : size ≤ 33554432) (t0 : 0 ≤ t) (t1 : t ≤ 4096) (r0 : 0 < rr) : ∀ (nn : Nat) (r pre A : List Int), y = pre ++ r → A.length = pre.length → r.length < nn → ok64 r = true →
    Rc.sfill.loop16 N nn size rr t y.length y pre.length (A ++ List.replicate r.length 0) = some (A ++ fl size rr t r)
  | 0, r, pre, A, _, _, h, _ => by omega
  | nn + 1, r, pre, A, hy, hA, h, ho => by
    unfold Rc.sfill.loop16
    simp only [br_dec, chkL_same, chkI_same]
    have hlen : y.length = pre.length + r.length := by rw [hy, List.length_append]
    cases r with
    | nil => rw [if_neg (by simp at hlen; omega)]; simp [fl]
    | cons x r =>
      simp only [List.length_cons] at hlen h
      simp only [ok64, Bool.and_eq_true, decide_eq_true_eq] at ho
      have hg : y.getD pre.length 0 = x := by rw [hy, get_at]
      have hm := fill_mul s0 s1 ho.1.1 ho.1.2 t0 t1
      rw [if_pos (by omega), chk_pos (by omega), Int.toNat_natCast, hg, i64 (x := size * x) (by omega) (by omega), i64 (x := size * x * t) (by omega) (by omega), sdown_F r0 (by omega) (by omega), obind_of, chk_pos (by simp; omega), i64 (x := (pre.length : Int) + 1) (by omega) (by omega)]
      have hs : (A ++ List.replicate (r.length + 1) (0 : Int)).set pre.length (size * x * t / rr) = (A ++ [size * x * t / rr]) ++ List.replicate r.length 0 := by
        rw [List.replicate_succ, ← hA, List.set_append_right _ _ (Nat.le_refl _)]
        simp
      rw [List.length_cons, hs]
      have ih := sfill_loop16 hl s0 s1 t0 t1 r0 nn r (pre ++ [x]) (A ++ [size * x * t / rr]) (by rw [hy]; simp) (by simp; omega) (by omega) ho.2
      rw [show (((pre ++ [x]).length : Nat) : Int) = (pre.length : Int) + 1 by simp] at ih
      rw [ih]
      simp [fl]
theorem sfill_both (hN : 200 ≤ N) (size : Int) (y : List Int) : (FillOk y size → Rc.sfill.F N size y = some (0, fillV size y)) ∧ (¬ FillOk y size → Rc.sfill.F N size y = some (1, [])) := by
  unfold Rc.sfill.F FillOk
  simp only [br_dec]
  by_cases c1 : (y.length : Int) < 1
  · rw [if_pos c1]; exact ⟨fun h => by omega, fun _ => rfl⟩
  rw [if_neg c1]
  by_cases c2 : (y.length : Int) > 16
  · rw [if_pos c2]; exact ⟨fun h => by omega, fun _ => rfl⟩
  rw [if_neg c2]
  by_cases c3 : size < 0
  · rw [if_pos c3]; exact ⟨fun h => by omega, fun _ => rfl⟩
  rw [if_neg c3]
  by_cases c4 : size > 33554432
  · rw [if_pos c4]; exact ⟨fun h => by omega, fun _ => rfl⟩
  rw [if_neg c4]
  have hl := sfill_loop5 (N := N) (ey := y) (es := size) (y := y) (by omega) N y [] 0 rfl (by omega) (by omega) (by simp)
  rw [List.length_nil, show ((0 : Nat) : Int) = 0 from rfl] at hl
  by_cases c5 : ok64 y = true
  · have hs0 := ssq_nonneg y
    have hs1 := ssq_le y c5
    rw [hl.1 c5, osum_inl, chk_pos (by omega), Int.zero_add, br_beq]
    refine ⟨fun _ => ?_, fun h => absurd ⟨by omega, by omega, by omega, by omega, c5⟩ h⟩
    simp only [Int.toNat_natCast]
    unfold fillV
    by_cases c6 : ssq y = 0
    · rw [if_pos c6, if_pos c6]
    · obtain ⟨r, e1, g1, _⟩ := fsqrt_F (N := N) (a := 1048576 * ssq y) (by omega) (by omega) (by omega)
      obtain ⟨t, e2, g2, _⟩ := fsqrt_F (N := N) (a := 1048576 * y.length) (by omega) (by omega) (by omega)
      have ht := root_t (by omega) g2
      have hr := root_r (by omega) g1
      have h16 := sfill_loop16 (N := N) (y := y) (size := size) (rr := r) (t := t) (by omega) (by omega) (by omega) g2.p ht (by omega) N y [] [] rfl rfl (by omega) c5
      rw [List.length_nil, List.nil_append, List.nil_append, show ((0 : Nat) : Int) = 0 from rfl] at h16
      rw [if_neg c6, if_neg c6, i64 (by omega) (by omega), e1, obind_of, i64 (by omega) (by omega), e2, obind_of, h16, obind_of, rt_of g1, rt_of g2]
  · rw [hl.2 (by simpa using c5)]
    exact ⟨fun h => absurd h.2.2.2.2 c5, fun _ => rfl⟩
theorem sfill_F (hN : 200 ≤ N) {size : Int} {y : List Int} (h : FillOk y size) : Rc.sfill.F N size y = some (0, fillV size y) := (sfill_both hN size y).1 h
end
end Go.Pl
/-
  Layer 20: the sum of squares of what is filled; ShapeFills.
  Conditions: none.
-/
namespace Go.Pl
open Go.Eng Go.Proofs
section
variable {N : Nat}
end
end Go.Pl
/-
  Plain words: how many bits a number has; the code's two ways to count them.
  Conditions: none.
-/
namespace Go.Pl
open Go.Eng Go.Proofs
def bl (x : Int) : Int := if x ≤ 0 then 0 else (x.toNat.log2 : Int) + 1
theorem bl_of {x : Int} {k : Nat} (h0 : 2 ^ k ≤ x) (h1 : x < 2 ^ (k + 1)) : bl x = k + 1 := by
  have hp := p2pos k
  obtain ⟨n, rfl⟩ := Int.eq_ofNat_of_zero_le (show 0 ≤ x by omega)
  have g0 : 2 ^ k ≤ n := by exact_mod_cast h0
  have g1 : n < 2 ^ (k + 1) := by exact_mod_cast h1
  have hn : n ≠ 0 := by have := Nat.two_pow_pos k; omega
  unfold bl
  rw [if_neg (by omega), Int.toNat_natCast]
  have e1 := (Nat.le_log2 hn).2 g0
  have e2 := (Nat.log2_lt hn).2 g1
  omega
theorem bl_spec {x : Int} (h : 1 ≤ x) : ∃ k : Nat, bl x = k + 1 ∧ 2 ^ k ≤ x ∧ x < 2 ^ (k + 1) := by
  obtain ⟨n, rfl⟩ := Int.eq_ofNat_of_zero_le (show 0 ≤ x by omega)
  have hn : n ≠ 0 := by omega
  refine ⟨n.log2, ?_, by exact_mod_cast Nat.log2_self_le hn, by exact_mod_cast Nat.lt_log2_self⟩
  unfold bl
  rw [if_neg (by omega), Int.toNat_natCast]
theorem bl_zero {x : Int} (h : x ≤ 0) : bl x = 0 := by unfold bl; rw [if_pos h]
theorem bl_nonneg (x : Int) : 0 ≤ bl x := by unfold bl; split <;> omega
theorem bl_mono {x y : Int} (h : x ≤ y) : bl x ≤ bl y := by
  rcases Int.lt_or_le x 1 with h1 | h1
  · rw [bl_zero (by omega)]; exact bl_nonneg y
  · obtain ⟨k, e1, a1, a2⟩ := bl_spec h1
    obtain ⟨j, e2, c1, c2⟩ := bl_spec (x := y) (by omega)
    rw [e1, e2]
    rcases Nat.lt_or_ge j k with hj | hj
    · have := p2le (a := j + 1) (b := k) hj
      omega
    · omega
theorem bl_le {x : Int} {n : Nat} (h : x < 2 ^ n) : bl x ≤ n := by
  rcases Int.lt_or_le x 1 with h1 | h1
  · rw [bl_zero (by omega)]; omega
  · obtain ⟨k, e1, a1, a2⟩ := bl_spec h1
    rcases Nat.lt_or_ge k n with hj | hj
    · omega
    · have := p2le (a := n) (b := k) hj; omega
theorem bl_shift {x : Int} (s : Nat) (h : 1 ≤ x / 2 ^ s) : bl x = s + bl (x / 2 ^ s) := by
  obtain ⟨k, e1, a1, a2⟩ := bl_spec h
  have hp := p2pos s
  have h1 := Int.ediv_mul_le x (show (2 : Int) ^ s ≠ 0 by omega)
  have h2 := Int.lt_ediv_add_one_mul_self x hp
  have h3 : (2 : Int) ^ k * 2 ^ s ≤ x / 2 ^ s * 2 ^ s := Int.mul_le_mul_of_nonneg_right a1 (by omega)
  have h4 : (x / 2 ^ s + 1) * 2 ^ s ≤ 2 ^ (k + 1) * 2 ^ s := Int.mul_le_mul_of_nonneg_right (by omega) (by omega)
  rw [← Int.pow_add] at h3 h4
  rw [e1, bl_of (k := k + s) (by omega) (by rw [show k + s + 1 = k + 1 + s by omega]; omega)]
  omega
def tab8 : List Int := [0, 1, 2, 2, 3, 3, 3, 3, 4, 4, 4, 4, 4, 4, 4, 4, 5, 5, 5, 5, 5, 5, 5, 5, 5, 5, 5, 5, 5, 5, 5, 5, 6, 6, 6, 6, 6, 6, 6, 6, 6, 6, 6, 6, 6, 6, 6, 6, 6, 6, 6, 6, 6, 6, 6, 6, 6, 6, 6, 6, 6, 6, 6, 6, 7, 7, 7, 7, 7, 7, 7, 7, 7, 7, 7, 7, 7, 7, 7, 7, 7, 7, 7, 7, 7, 7, 7, 7, 7, 7, 7, 7, 7, 7, 7, 7, 7, 7, 7, 7, 7, 7, 7, 7, 7, 7, 7, 7, 7, 7, 7, 7, 7, 7, 7, 7, 7, 7, 7, 7, 7, 7, 7, 7, 7, 7, 7, 7, 8, 8, 8, 8, 8, 8, 8, 8, 8, 8, 8, 8, 8, 8, 8, 8, 8, 8, 8, 8, 8, 8, 8, 8, 8, 8, 8, 8, 8, 8, 8, 8, 8, 8, 8, 8, 8, 8, 8, 8, 8, 8, 8, 8, 8, 8, 8, 8, 8, 8, 8, 8, 8, 8, 8, 8, 8, 8, 8, 8, 8, 8, 8, 8, 8, 8, 8, 8, 8, 8, 8, 8, 8, 8, 8, 8, 8, 8, 8, 8, 8, 8, 8, 8, 8, 8, 8, 8, 8, 8, 8, 8, 8, 8, 8, 8, 8, 8, 8, 8, 8, 8, 8, 8, 8, 8, 8, 8, 8, 8, 8, 8, 8, 8, 8, 8, 8, 8, 8, 8, 8, 8, 8, 8, 8, 8, 8, 8]
theorem tab8_all : ∀ y : Fin 256, tab8.getD y.val 0 = (if y.val = 0 then 0 else (y.val.log2 : Int) + 1) := by decide +kernel
theorem tab8_get {y : Int} (h0 : 0 ≤ y) (h1 : y < 256) : tab8.getD y.toNat 0 = bl y := by
  have := tab8_all ⟨y.toNat, by omega⟩
  simp only at this
  rw [this]
  unfold bl
  by_cases h : y ≤ 0
  · rw [if_pos (by omega), if_pos h]
  · rw [if_neg (by omega), if_neg h]
theorem p32 : (2 : Int) ^ min (Int.toNat (32 : Int)) IntKind.u64.bits = 4294967296 := rfl
theorem fd256 (a : Int) : a.fdiv 256 = a / 256 := fdiv_ediv (by omega)
theorem fd65536 (a : Int) : a.fdiv 65536 = a / 65536 := fdiv_ediv (by omega)
theorem fd32 (a : Int) : a.fdiv 4294967296 = a / 4294967296 := fdiv_ediv (by omega)
theorem p16 : (2 : Int) ^ min (Int.toNat (16 : Int)) IntKind.u64.bits = 65536 := rfl
set_option maxRecDepth 100000 in
theorem len64_F {N : Nat} {x : Int} (h0 : 0 ≤ x) (h1 : x < 18446744073709551616) : Rc.len64.F N x = some (bl x) := by
  have hL : Rc.len64.F N x = Rc.len64.F N x := rfl
  unfold Rc.len64.F at hL ⊢
  generalize hT : ([(0 : Int), (1 : Int), (2 : Int), (2 : Int), (3 : Int), (3 : Int), (3 : Int), (3 : Int), (4 : Int), (4 : Int), (4 : Int), (4 : Int), (4 : Int), (4 : Int), (4 : Int), (4 : Int), (5 : Int), (5 : Int), (5 : Int), (5 : Int), (5 : Int), (5 : Int), (5 : Int), (5 : Int), (5 : Int), (5 : Int), (5 : Int), (5 : Int), (5 : Int), (5 : Int), (5 : Int), (5 : Int), (6 : Int), (6 : Int), (6 : Int), (6 : Int), (6 : Int), (6 : Int), (6 : Int), (6 : Int), (6 : Int), (6 : Int), (6 : Int), (6 : Int), (6 : Int), (6 : Int), (6 : Int), (6 : Int), (6 : Int), (6 : Int), (6 : Int), (6 : Int), (6 : Int), (6 : Int), (6 : Int), (6 : Int), (6 : Int), (6 : Int), (6 : Int), (6 : Int), (6 : Int), (6 : Int), (6 : Int), (6 : Int), (7 : Int), (7 : Int), (7 : Int), (7 : Int), (7 : Int), (7 : Int), (7 : Int), (7 : Int), (7 : Int), (7 : Int), (7 : Int), (7 : Int), (7 : Int), (7 : Int), (7 : Int), (7 : Int), (7 : Int), (7 : Int), (7 : Int), (7 : Int), (7 : Int), (7 : Int), (7 : Int), (7 : Int), (7 : Int), (7 : Int), (7 : Int), (7 : Int), (7 : Int), (7 : Int), (7 : Int), (7 : Int), (7 : Int), (7 : Int), (7 : Int), (7 : Int), (7 : Int), (7 : Int), (7 : Int), (7 : Int), (7 : Int), (7 : Int), (7 : Int), (7 : Int), (7 : Int), (7 : Int), (7 : Int), (7 : Int), (7 : Int), (7 : Int), (7 : Int), (7 : Int), (7 : Int), (7 : Int), (7 : Int), (7 : Int), (7 : Int), (7 : Int), (7 : Int), (7 : Int), (7 : Int), (7 : Int), (7 : Int), (7 : Int), (8 : Int), (8 : Int), (8 : Int), (8 : Int), (8 : Int), (8 : Int), (8 : Int), (8 : Int), (8 : Int), (8 : Int), (8 : Int), (8 : Int), (8 : Int), (8 : Int), (8 : Int), (8 : Int), (8 : Int), (8 : Int), (8 : Int), (8 : Int), (8 : Int), (8 : Int), (8 : Int), (8 : Int), (8 : Int), (8 : Int), (8 : Int), (8 : Int), (8 : Int), (8 : Int), (8 : Int), (8 : Int), (8 : Int), (8 : Int), (8 : Int), (8 : Int), (8 : Int), (8 : Int), (8 : Int), (8 : Int), (8 : Int), (8 : Int), (8 : Int), (8 : Int), (8 : Int), (8 : Int), (8 : Int), (8 : Int), (8 : Int), (8 : Int), (8 : Int), (8 : Int), (8 : Int), (8 : Int), (8 : Int), (8 : Int), (8 : Int), (8 : Int), (8 : Int), (8 : Int), (8 : Int), (8 : Int), (8 : Int), (8 : Int), (8 : Int), (8 : Int), (8 : Int), (8 : Int), (8 : Int), (8 : Int), (8 : Int), (8 : Int), (8 : Int), (8 : Int), (8 : Int), (8 : Int), (8 : Int), (8 : Int), (8 : Int), (8 : Int), (8 : Int), (8 : Int), (8 : Int), (8 : Int), (8 : Int), (8 : Int), (8 : Int), (8 : Int), (8 : Int), (8 : Int), (8 : Int), (8 : Int), (8 : Int), (8 : Int), (8 : Int), (8 : Int), (8 : Int), (8 : Int), (8 : Int), (8 : Int), (8 : Int), (8 : Int), (8 : Int), (8 : Int), (8 : Int), (8 : Int), (8 : Int), (8 : Int), (8 : Int), (8 : Int), (8 : Int), (8 : Int), (8 : Int), (8 : Int), (8 : Int), (8 : Int), (8 : Int), (8 : Int), (8 : Int), (8 : Int), (8 : Int), (8 : Int), (8 : Int), (8 : Int), (8 : Int), (8 : Int), (8 : Int), (8 : Int)] : List Int) = T
  replace hT : T = tab8 := hT.symm
  subst hT
  simp only [p32, p16, p8, br_dec, ge_iff_le, fd256, fd65536, fd32]
  have sh : ∀ (s : Nat) (y : Int), x / 2 ^ s = y → (s = 0 ∨ 1 ≤ y) → bl x = s + bl y := by
    intro s y hy hs
    subst hy
    rcases hs with rfl | hs
    · simp
    · exact bl_shift s hs
  have fin : ∀ (s : Nat) (y : Int), x / 2 ^ s = y → (s = 0 ∨ 1 ≤ y) → 0 ≤ y → y < 256 → s ≤ 56 → ∀ z : Int, z = s → IntKind.i64.wrap (z + IntKind.i64.wrap (tab8.getD y.toNat 0)) = bl x := by
    intro s y hy hs hy0 hy1 hs2 z hz
    have b0 := bl_nonneg y
    have b1 := bl_le (n := 8) (x := y) (by show y < 256; exact hy1)
    rw [tab8_get hy0 hy1, i64 (x := bl y) (by omega) (by omega), i64 (by omega) (by omega), sh s y hy hs, hz]
  by_cases a1 : 4294967296 ≤ x
  · rw [if_pos a1]
    by_cases a2 : 65536 ≤ x / 4294967296
    · rw [if_pos a2]
      by_cases a3 : 256 ≤ x / 4294967296 / 65536
      · rw [if_pos a3]
        refine (chk_pos (by rw [u8 (by omega) (by omega)]; omega) _).trans ?_
        rw [u8 (by omega) (by omega)]
        exact congrArg some (fin 56 _ (by show x / 72057594037927936 = _; omega) (Or.inr (by omega)) (by omega) (by omega) (by omega) _ rfl)
      · rw [if_neg a3]
        refine (chk_pos (by rw [u8 (by omega) (by omega)]; omega) _).trans ?_
        rw [u8 (by omega) (by omega)]
        exact congrArg some (fin 48 _ (by show x / 281474976710656 = _; omega) (Or.inr (by omega)) (by omega) (by omega) (by omega) _ rfl)
    · rw [if_neg a2]
      by_cases a3 : 256 ≤ x / 4294967296
      · rw [if_pos a3]
        refine (chk_pos (by rw [u8 (by omega) (by omega)]; omega) _).trans ?_
        rw [u8 (by omega) (by omega)]
        exact congrArg some (fin 40 _ (by show x / 1099511627776 = _; omega) (Or.inr (by omega)) (by omega) (by omega) (by omega) _ rfl)
      · rw [if_neg a3]
        refine (chk_pos (by rw [u8 (by omega) (by omega)]; omega) _).trans ?_
        rw [u8 (by omega) (by omega)]
        exact congrArg some (fin 32 _ (by show x / 4294967296 = _; omega) (Or.inr (by omega)) (by omega) (by omega) (by omega) _ rfl)
  · rw [if_neg a1]
    by_cases a2 : 65536 ≤ x
    · rw [if_pos a2]
      by_cases a3 : 256 ≤ x / 65536
      · rw [if_pos a3]
        refine (chk_pos (by rw [u8 (by omega) (by omega)]; omega) _).trans ?_
        rw [u8 (by omega) (by omega)]
        exact congrArg some (fin 24 _ (by show x / 16777216 = _; omega) (Or.inr (by omega)) (by omega) (by omega) (by omega) _ rfl)
      · rw [if_neg a3]
        refine (chk_pos (by rw [u8 (by omega) (by omega)]; omega) _).trans ?_
        rw [u8 (by omega) (by omega)]
        exact congrArg some (fin 16 _ (by show x / 65536 = _; omega) (Or.inr (by omega)) (by omega) (by omega) (by omega) _ rfl)
    · rw [if_neg a2]
      by_cases a3 : 256 ≤ x
      · rw [if_pos a3]
        refine (chk_pos (by rw [u8 (by omega) (by omega)]; omega) _).trans ?_
        rw [u8 (by omega) (by omega)]
        exact congrArg some (fin 8 _ (by show x / 256 = _; omega) (Or.inr (by omega)) (by omega) (by omega) (by omega) _ rfl)
      · rw [if_neg a3]
        refine (chk_pos (by rw [u8 (by omega) (by omega)]; omega) _).trans ?_
        rw [u8 (by omega) (by omega)]
        exact congrArg some (fin 0 _ (by simp) (Or.inl rfl) (by omega) (by omega) (by omega) _ rfl)
theorem blen_F {N : Nat} {x : Int} (h0 : 0 ≤ x) (h1 : x < 18446744073709551616) : Rc.blen.F N x = some (bl x) := by
  unfold Rc.blen.F
  rw [len64_F h0 h1]
  rfl
section
variable {N : Nat} {val last front back window waiting count : Int} {bad : Bool} {b : List Int}
end
section
variable {N : Nat} {val last front back wait waiting count eq : Int} {bad : Bool} {b : List Int}
end
def Q.new0 (b : List Int) : Q := ⟨128, 127 - nb b 0 / 2, nb b 0, 1⟩
def Q.new (b : List Int) : Q := (Q.new0 b).on b
theorem Q.new0_pre {b : List Int} (hb : Bytes b) : (Q.new0 b).Pre := by
  obtain ⟨h1, h2⟩ := nb_range hb 0
  unfold Q.new0
  exact ⟨by simp only; omega, by simp only; omega, by simp only; omega, by simp only; omega, h1, h2⟩
theorem Q.new_ok {b : List Int} (hb : Bytes b) : (Q.new b).Ok := Q.on_ok hb (Q.new0_pre hb)
end Go.Pl
/-
  Plain words of chapter 3, those that hang on no law (taken out of the texts of L3 by split.py).
  Conditions: none.
-/
namespace Go.Pl
open Go.Eng Go.Proofs
def W.new : W := ⟨0, 0, 0⟩
theorem W.new_ok : W.new.Ok := ⟨by decide, by decide, by decide⟩
def bitE (b : List Int) (p : Nat) : Int := (eb b (p / 8) / 2 ^ (p % 8)) % 2
theorem bitE_range (b : List Int) (p : Nat) : 0 ≤ bitE b p ∧ bitE b p < 2 := by unfold bitE; omega
def bsum (b : List Int) (P : Nat) : Nat → Int
  | 0 => 0
  | n + 1 => bsum b P n + bitE b (P + n) * 2 ^ n
theorem bsum_range (b : List Int) (P : Nat) : ∀ n, 0 ≤ bsum b P n ∧ bsum b P n < 2 ^ n
  | 0 => by simp [bsum]
  | n + 1 => by
    obtain ⟨h1, h2⟩ := bsum_range b P n
    obtain ⟨h3, h4⟩ := bitE_range b (P + n)
    have h5 := p2pos n
    have h6 : 0 ≤ bitE b (P + n) * 2 ^ n := Int.mul_nonneg h3 (by omega)
    have h7 : bitE b (P + n) * 2 ^ n ≤ 1 * 2 ^ n := Int.mul_le_mul_of_nonneg_right (by omega) (by omega)
    simp only [bsum, Int.pow_succ]
    omega
theorem bsum_split (b : List Int) (P a : Nat) : ∀ c, bsum b P (a + c) = bsum b P a + 2 ^ a * bsum b (P + a) c
  | 0 => by simp [bsum]
  | c + 1 => by
    rw [← Nat.add_assoc]
    simp only [bsum]
    rw [bsum_split b P a c, Int.pow_add, Nat.add_assoc P a c, Int.mul_add, ← Int.mul_assoc (2 ^ a), Int.mul_comm (2 ^ a) (bitE b _), Int.mul_assoc (bitE b _), Int.add_assoc]
theorem bsum_byte {b : List Int} (hb : Bytes b) (k : Nat) : bsum b (8 * k) 8 = eb b k := by
  obtain ⟨h1, h2⟩ := eb_range hb k
  simp only [bsum, bitE]
  rw [show (8 * k + 0) / 8 = k by omega, show (8 * k + 1) / 8 = k by omega, show (8 * k + 2) / 8 = k by omega, show (8 * k + 3) / 8 = k by omega, show (8 * k + 4) / 8 = k by omega, show (8 * k + 5) / 8 = k by omega, show (8 * k + 6) / 8 = k by omega, show (8 * k + 7) / 8 = k by omega]
  rw [show (8 * k + 0) % 8 = 0 by omega, show (8 * k + 1) % 8 = 1 by omega, show (8 * k + 2) % 8 = 2 by omega, show (8 * k + 3) % 8 = 3 by omega, show (8 * k + 4) % 8 = 4 by omega, show (8 * k + 5) % 8 = 5 by omega, show (8 * k + 6) % 8 = 6 by omega, show (8 * k + 7) % 8 = 7 by omega]
  generalize eb b k = x at h1 h2 ⊢
  have e0 : (2 : Int) ^ 0 = 1 := rfl
  have e1 : (2 : Int) ^ 1 = 2 := rfl
  have e2 : (2 : Int) ^ 2 = 4 := rfl
  have e3 : (2 : Int) ^ 3 = 8 := rfl
  have e4 : (2 : Int) ^ 4 = 16 := rfl
  have e5 : (2 : Int) ^ 5 = 32 := rfl
  have e6 : (2 : Int) ^ 6 = 64 := rfl
  have e7 : (2 : Int) ^ 7 = 128 := rfl
  rw [e0, e1, e2, e3, e4, e5, e6, e7]
  omega
structure W.At (b : List Int) (w : W) (P : Nat) : Prop where
  a : 8 * w.k = P + w.wai
  b : w.win = bsum b P w.wai
theorem W.At.step {b : List Int} (hb : Bytes b) {w : W} {P : Nat} (h : w.At b P) : (w.step b).At b P := by
  refine ⟨by have := h.a; simp only [W.step]; omega, ?_⟩
  simp only [W.step]
  rw [bsum_split, h.b, show P + w.wai = 8 * w.k by have := h.a; omega, bsum_byte hb, Int.mul_comm]
theorem W.At.fill {b : List Int} (hb : Bytes b) {P n : Nat} : ∀ (f : Nat) (w : W), w.At b P → (W.fill b n f w).At b P
  | 0, w, h => h
  | f + 1, w, h => by
    simp only [W.fill]
    split
    · exact W.At.fill hb f _ (h.step hb)
    · exact h
theorem W.At.next {b : List Int} (hb : Bytes b) {w : W} {P n : Nat} (h : w.At b P) (hn : n ≤ 24) : w.val b n = bsum b P n ∧ (w.next b n).At b (P + n) := by
  have hf := W.At.fill (n := n) hb 4 w h
  have h4 := W.fill_n (b := b) (n := n) 4 w (by omega)
  obtain ⟨r0, r1⟩ := bsum_range b P n
  have hp := p2pos n
  have e : (W.fill b n 4 w).win = bsum b P n + 2 ^ n * bsum b (P + n) ((W.fill b n 4 w).wai - n) := by
    rw [hf.b, ← bsum_split]
    congr 1
    omega
  refine ⟨?_, ⟨?_, ?_⟩⟩
  · unfold W.val W.at
    rw [e, Int.add_mul_emod_self_left, Int.emod_eq_of_lt r0 r1]
  · have := hf.a
    simp only [W.next, W.at]
    omega
  · simp only [W.next, W.at]
    rw [e, Int.add_mul_ediv_left _ _ (by omega), Int.ediv_eq_zero_of_lt r0 r1, Int.zero_add]
end Go.Pl
/-
  Plain words of chapter 3, those that hang on no law (taken out of the texts of L3 by split.py).
  Conditions: none.
-/
namespace Go.Pl
open Go.Eng Go.Proofs
def ub (ft : Int) : Nat := (bl (ft - 1) - 8).toNat
def uf (ft : Int) : Int := (ft - 1) / 2 ^ ub ft + 1
theorem ub_range {ft : Int} (h0 : 256 < ft) (h1 : ft ≤ 4294967295) : 1 ≤ ub ft ∧ ub ft ≤ 24 ∧ bl (ft - 1) = ub ft + 8 ∧ 1 ≤ uf ft ∧ uf ft ≤ 256 := by
  have a1 := bl_le (n := 32) (x := ft - 1) (by show ft - 1 < 4294967296; omega)
  have a2 := bl_mono (x := 256) (y := ft - 1) (by omega)
  have e : bl 256 = 9 := by decide +kernel
  obtain ⟨k, k1, k2, k3⟩ := bl_spec (x := ft - 1) (by omega)
  have hub : ub ft = k - 7 := by unfold ub; omega
  have hp := p2pos (ub ft)
  refine ⟨by unfold ub; omega, by unfold ub; omega, by unfold ub; omega, ?_, ?_⟩
  · unfold uf
    have : 0 ≤ (ft - 1) / 2 ^ ub ft := Int.ediv_nonneg (by omega) (by omega)
    omega
  · unfold uf
    have : (ft - 1) / 2 ^ ub ft < 256 := by
      rw [Int.ediv_lt_iff_lt_mul hp, show (256 : Int) = 2 ^ 8 from rfl, ← Int.pow_add, hub, show 8 + (k - 7) = k + 1 by omega]
      exact k3
    omega
theorem ch_takes {q : Q} (h : q.Ok) {ft : Int} (f0 : 1 ≤ ft) (f1 : ft ≤ 65536) : Takes q (q.ch ft) (q.ch ft + 1) ft := by
  obtain ⟨c0, c1⟩ := Q.ch_range h f0 f1
  exact ⟨f0, f1, c0, Int.le_refl _, by omega, by omega⟩
def Q.un (b : List Int) (q : Q) (ft : Int) : Q := if ft ≤ 256 then q.tk b (q.ch ft) (q.ch ft + 1) ft else q.tk b (q.ch (uf ft)) (q.ch (uf ft) + 1) (uf ft)
theorem Q.un_ok {b : List Int} (hb : Bytes b) {q : Q} (h : q.Ok) {ft : Int} (h0 : 1 < ft) (h1 : ft ≤ 4294967295) : (q.un b ft).Ok := by
  unfold Q.un
  split
  · exact Q.tk_ok hb h (ch_takes h (by omega) (by omega))
  · obtain ⟨_, _, _, u0, u1⟩ := ub_range (ft := ft) (by omega) h1
    exact Q.tk_ok hb h (ch_takes h u0 (by omega))
section
variable {N : Nat} {count : Int} {bad : Bool} {b : List Int}
end
end Go.Pl
/-
  Chapter 3 in plain words: numbers that are small as a rule (rc's); the reference's flags, bits, numbers.
  Conditions: none.
-/
namespace Go.Pl
open Go.Eng Go.Proofs
structure Lp where
  l : Int
  v : Int
  s : Int
def Lp.step (decay : Int) (p : Lp) : Lp := ⟨p.l + 2 * p.s, p.v + 1, (2 * p.s - 2) * decay / 32768 + 1⟩
def Lp.run (decay f : Int) : Nat → Lp → Lp
  | 0, p => p
  | n + 1, p => if 1 < p.s ∧ p.l + 2 * p.s ≤ f then Lp.run decay f n (p.step decay) else p
structure Lp.Ok (f : Int) (p : Lp) : Prop where
  l0 : 0 ≤ p.l
  l1 : p.l ≤ f
  s0 : 1 ≤ p.s
  s1 : p.s ≤ 20000
  v0 : 0 ≤ p.v
  v1 : p.v ≤ p.l + 1
theorem Lp.Ok.step {decay f : Int} (d0 : 0 ≤ decay) (d1 : decay ≤ 16000) {p : Lp} (h : p.Ok f) (hs : 1 < p.s) (hf : p.l + 2 * p.s ≤ f) : (p.step decay).Ok f ∧ 0 ≤ (2 * p.s - 2) * decay ∧ (2 * p.s - 2) * decay ≤ (2 * p.s - 2) * 16000 := by
  obtain ⟨h1, h2, h3, h4, h5, h6⟩ := h
  have k1 : 0 ≤ (2 * p.s - 2) * decay := Int.mul_nonneg (by omega) d0
  have k2 : (2 * p.s - 2) * decay ≤ (2 * p.s - 2) * 16000 := Int.mul_le_mul_of_nonneg_left d1 (by omega)
  refine ⟨⟨by simp only [Lp.step]; omega, by simp only [Lp.step]; omega, by simp only [Lp.step]; omega, by simp only [Lp.step]; omega, by simp only [Lp.step]; omega, by simp only [Lp.step]; omega⟩, k1, k2⟩
def Lp.start (fs decay : Int) : Lp := ⟨fs, 1, (32736 - fs) * (16384 - decay) / 32768 + 1⟩
def lapEnd (f : Int) (p : Lp) : Lp :=
  let p2 : Lp := if p.s ≤ 1 then ⟨p.l + 2 * ((f - p.l) / 2), p.v + (f - p.l) / 2, p.s⟩ else p
  if f < p2.l + p2.s then ⟨p2.l, -p2.v, p2.s⟩ else ⟨p2.l + p2.s, p2.v, p2.s⟩
def lapAt (f fs decay : Int) : Lp := if f ≥ fs then lapEnd f (Lp.run decay f 8192 (Lp.start fs decay)) else ⟨0, 0, fs⟩
end Go.Pl
/-
  Chapter 3 in plain words: Laplace's numbers in the code, and the reference's flags, bits, numbers.
  Conditions: none.
-/
namespace Go.Pl
open Go.Eng Go.Proofs
def lapH (p : Lp) : Int := min (p.l + p.s) 32768
section
variable {N : Nat} {back window waiting count : Int} {bad : Bool} {b : List Int}
end
section
variable {N : Nat} {back wait waiting count eq : Int} {bad : Bool} {b : List Int}
end
end Go.Pl
/-
  Chapter 4 in plain words: bytes of numbers, the range encoder's register as whole numbers, what is written is read.
  Conditions: none.
-/
namespace Go.Pl
open Go.Eng
def tb : Nat → Int → List Int
  | 0, _ => []
  | k + 1, n => tb k (n / 256) ++ [n % 256]
theorem tb_len : ∀ (k : Nat) (n : Int), (tb k n).length = k
  | 0, _ => rfl
  | k + 1, n => by simp [tb, tb_len k]
theorem tb_snoc (k : Nat) (n : Int) {c : Int} (h0 : 0 ≤ c) (h1 : c < 256) : tb k n ++ [c] = tb (k + 1) (n * 256 + c) := by
  simp only [tb]
  rw [show (n * 256 + c) / 256 = n by omega, show (n * 256 + c) % 256 = c by omega]
theorem p256_2 (a : Nat) : (256 : Int) ^ a = 2 ^ (8 * a) := by rw [Int.pow_mul]; rfl
theorem p256pos (a : Nat) : (0 : Int) < 256 ^ a := by rw [p256_2]; exact p2pos _
def cp (b : List Int) : Nat → Int
  | 0 => 0
  | m + 1 => cp b m * 256 + nb b m
def le : Nat → Int → List Int
  | 0, _ => []
  | k + 1, n => n % 256 :: le k (n / 256)
theorem le_len : ∀ (k : Nat) (n : Int), (le k n).length = k
  | 0, _ => rfl
  | k + 1, n => by simp [le, le_len k]
theorem le_get : ∀ (k : Nat) (n : Int) (i : Nat), i < k → (le k n).getD i 0 = n / 256 ^ i % 256
  | 0, n, i, h => by omega
  | k + 1, n, 0, h => by simp [le]
  | k + 1, n, i + 1, h => by
    have := le_get k (n / 256) i (by omega)
    simp only [le, List.getD_cons_succ]
    have hp := p256pos i
    rw [this, Int.ediv_ediv_of_nonneg (by omega), Int.pow_succ, Int.mul_comm]
theorem le_ext {a b : List Int} (h : a.length = b.length) (hg : ∀ i, i < a.length → a.getD i 0 = b.getD i 0) : a = b := by
  apply List.ext_getElem h
  intro i h1 h2
  have := hg i h1
  simpa [List.getD_eq_getElem?_getD, List.getElem?_eq_getElem h1, List.getElem?_eq_getElem h2] using this
structure E where
  k : Nat
  low : Int
  rng : Int
  r : Nat
  raw : Int
def E.told (e : E) : List Int := tb e.k (e.low / 2147483648)
def E.val (e : E) : Int := e.low % 2147483648
def E.bits (e : E) : List Int := le ((e.r + 7) / 8) e.raw
def E.count (e : E) : Int := 33 + 8 * (e.k : Int) + (e.r : Int)
structure E.Pre (e : E) : Prop where
  r0 : 1 ≤ e.rng
  r1 : e.rng ≤ 2147483648
  l0 : 0 ≤ e.low
  l1 : e.low + e.rng ≤ 2147483648 * 256 ^ e.k
  w0 : 0 ≤ e.raw
  w1 : e.raw < 2 ^ e.r
structure E.Ok (e : E) : Prop extends E.Pre e where
  g : 8388608 < e.rng
def E.step (e : E) : E := ⟨e.k + 1, e.low * 256, e.rng * 256, e.r, e.raw⟩
def E.norm : Nat → E → E
  | 0, e => e
  | n + 1, e => if e.rng ≤ 8388608 then E.norm n e.step else e
def E.on (e : E) : E := E.norm 4 e
theorem E.Pre.step {e : E} (h : e.Pre) (hr : e.rng ≤ 8388608) : e.step.Pre := by
  obtain ⟨h1, h2, h3, h4, h5, h6⟩ := h
  refine ⟨by simp only [E.step]; omega, by simp only [E.step]; omega, by simp only [E.step]; omega, ?_, h5, h6⟩
  simp only [E.step, Int.pow_succ]
  omega
theorem E.norm_ok : ∀ (n : Nat) (e : E), e.Pre → 8388608 < e.rng * 256 ^ n → (E.norm n e).Ok
  | 0, e, h, hn => ⟨h, by simpa [E.norm] using hn⟩
  | n + 1, e, h, hn => by
    simp only [E.norm]
    split
    · rename_i hr
      refine E.norm_ok n _ (h.step hr) ?_
      simp only [E.step]
      rw [Int.pow_succ] at hn
      rw [Int.mul_assoc, Int.mul_comm 256]
      exact hn
    · exact ⟨h, by omega⟩
theorem E.on_ok {e : E} (h : e.Pre) : e.on.Ok := E.norm_ok 4 e h (by have := h.r0; omega)
theorem E.norm_stop {e : E} (h : 8388608 < e.rng) : ∀ n, E.norm n e = e
  | 0 => rfl
  | n + 1 => by simp only [E.norm]; rw [if_neg (by omega)]
theorem E.norm_same : ∀ (n : Nat) (e : E), (E.norm n e).r = e.r ∧ (E.norm n e).raw = e.raw ∧ e.k ≤ (E.norm n e).k ∧ (E.norm n e).k ≤ e.k + n
  | 0, e => by simp [E.norm]
  | n + 1, e => by
    simp only [E.norm]
    split
    · have := E.norm_same n e.step
      simp only [E.step] at this ⊢
      omega
    · simp
def E.tk0 (e : E) (fl fh ft : Int) : E :=
  if 0 < fl then ⟨e.k, e.low + (e.rng - e.rng / ft * (ft - fl)), e.rng / ft * (fh - fl), e.r, e.raw⟩
  else ⟨e.k, e.low, e.rng - e.rng / ft * (ft - fh), e.r, e.raw⟩
def E.tk (e : E) (fl fh ft : Int) : E := (e.tk0 fl fh ft).on
def E.f0 (e : E) (v : Bool) (n : Nat) : E :=
  if v then ⟨e.k, e.low + (e.rng - e.rng / 2 ^ n), e.rng / 2 ^ n, e.r, e.raw⟩ else ⟨e.k, e.low, e.rng - e.rng / 2 ^ n, e.r, e.raw⟩
def E.fl (e : E) (v : Bool) (n : Nat) : E := (e.f0 v n).on
def E.bt (e : E) (v : Int) (n : Nat) : E := ⟨e.k, e.low, e.rng, e.r + n, e.raw + v * 2 ^ e.r⟩
structure Place (fl fh ft : Int) : Prop where
  t0 : 1 ≤ ft
  t1 : ft ≤ 65536
  a : 0 ≤ fl
  b : fl < fh
  c : fh ≤ ft
theorem E.tk0_facts {e : E} (h : e.Ok) {fl fh ft : Int} (p : Place fl fh ft) :
    1 ≤ e.rng / ft ∧ e.rng / ft * ft ≤ e.rng ∧ 0 ≤ e.rng / ft * (ft - fh) ∧ e.rng / ft * (ft - fh) + e.rng / ft * (fh - fl) = e.rng / ft * (ft - fl) ∧ e.rng / ft * (ft - fl) + e.rng / ft * fl = e.rng / ft * ft ∧ 1 ≤ e.rng / ft * (fh - fl) ∧ 0 ≤ e.rng / ft * fl := by
  obtain ⟨t0, t1, a, b, c⟩ := p
  obtain ⟨e0, e1, e2⟩ := e_facts h.g t0 t1
  generalize e.rng / ft = s at *
  refine ⟨e0, e1, Int.mul_nonneg (by omega) (by omega), ?_, ?_, ?_, Int.mul_nonneg (by omega) (by omega)⟩
  · rw [← Int.mul_add]; congr 1; omega
  · rw [← Int.mul_add]; congr 1; omega
  · have : 1 * 1 ≤ s * (fh - fl) := Int.mul_le_mul e0 (by omega) (by omega) (by omega)
    omega
theorem E.tk0_pre {e : E} (h : e.Ok) {fl fh ft : Int} (p : Place fl fh ft) : (e.tk0 fl fh ft).Pre := by
  obtain ⟨k1, k2, k3, k4, k5, k6, k7⟩ := E.tk0_facts h p
  obtain ⟨⟨h1, h2, h3, h4, h5, h6⟩, h7⟩ := h
  unfold E.tk0
  split
  · exact ⟨by simp only; omega, by simp only; omega, by simp only; omega, by simp only; omega, h5, h6⟩
  · have : fl = 0 := by have := p.a; omega
    subst this
    simp only [Int.sub_zero] at *
    exact ⟨by simp only; omega, by simp only; omega, by simp only; omega, by simp only; omega, h5, h6⟩
theorem E.tk_ok {e : E} (h : e.Ok) {fl fh ft : Int} (p : Place fl fh ft) : (e.tk fl fh ft).Ok := E.on_ok (E.tk0_pre h p)
theorem E.bt_ok {e : E} (h : e.Ok) {v : Int} {n : Nat} (v0 : 0 ≤ v) (v1 : v < 2 ^ n) : (e.bt v n).Ok := by
  obtain ⟨⟨h1, h2, h3, h4, h5, h6⟩, h7⟩ := h
  have hp := p2pos e.r
  refine ⟨⟨h1, h2, h3, h4, ?_, ?_⟩, h7⟩
  · have := Int.mul_nonneg v0 (show 0 ≤ (2 : Int) ^ e.r by omega)
    simp only [E.bt]; omega
  · simp only [E.bt]
    rw [Int.pow_add]
    have : v * 2 ^ e.r ≤ (2 ^ n - 1) * 2 ^ e.r := Int.mul_le_mul_of_nonneg_right (by omega) (by omega)
    rw [Int.sub_mul, Int.one_mul, Int.mul_comm (2 ^ n)] at this
    omega
def E.In (b : List Int) (e : E) : Prop := e.low ≤ cp b (e.k + 4) / 2 ∧ cp b (e.k + 4) / 2 < e.low + e.rng
def E.rd (b : List Int) (e : E) : Q := ⟨e.rng, e.low + e.rng - 1 - cp b (e.k + 4) / 2, nb b (e.k + 3), e.k + 4⟩
end Go.Pl
/-
  Chapter 4 in plain words: the bytes that are told at the end hold the code and the bits for the end.
  Conditions: none.
-/
namespace Go.Pl
open Go.Eng
theorem emod_two_mul {D : Int} (hD : 0 < D) (y : Int) : y % (D * 2) = y % D + (y / D % 2) * D := by
  have h1 := Int.mul_ediv_add_emod y D
  have h2 := Int.emod_nonneg y (show D ≠ 0 by omega)
  have h3 := Int.emod_lt_of_pos y hD
  have h4 : y / D = 2 * (y / D / 2) + y / D % 2 := by omega
  have h5 : y = D * 2 * (y / D / 2) + (y % D + (y / D % 2) * D) := by
    have : D * (y / D) = D * 2 * (y / D / 2) + (y / D % 2) * D := by
      rw [Int.mul_assoc, Int.mul_comm (y / D % 2), ← Int.mul_add, ← h4]
    omega
  have h6 : y / D % 2 = 0 ∨ y / D % 2 = 1 := by omega
  have h7 : 0 ≤ y % D + (y / D % 2) * D ∧ y % D + (y / D % 2) * D < D * 2 := by
    rcases h6 with h6 | h6 <;> rw [h6] <;> omega
  have h8 : y % (D * 2) = (D * 2 * (y / D / 2) + (y % D + (y / D % 2) * D)) % (D * 2) := congrArg (· % (D * 2)) h5
  rw [h8, Int.add_comm, Int.add_mul_emod_self_left]
  exact Int.emod_eq_of_lt h7.1 h7.2
theorem pow_split (p : Nat) : (2 : Int) ^ p = 256 ^ (p / 8) * 2 ^ (p % 8) := by
  rw [p256_2, ← Int.pow_add]
  congr 1
  omega
structure E.Fit (b : List Int) (e : E) : Prop where
  i : e.In b
  s : bsum b 0 e.r = e.raw
theorem E.tk0_same (e : E) (fl fh ft : Int) : (e.tk0 fl fh ft).r = e.r ∧ (e.tk0 fl fh ft).raw = e.raw ∧ (e.tk0 fl fh ft).k = e.k := by unfold E.tk0; split <;> simp
theorem E.on_same (e : E) : e.on.r = e.r ∧ e.on.raw = e.raw ∧ e.k ≤ e.on.k ∧ e.on.k ≤ e.k + 4 := E.norm_same 4 e
theorem E.tk_same (e : E) (fl fh ft : Int) : (e.tk fl fh ft).r = e.r ∧ (e.tk fl fh ft).raw = e.raw ∧ e.k ≤ (e.tk fl fh ft).k ∧ (e.tk fl fh ft).k ≤ e.k + 4 := by
  have h1 := E.on_same (e.tk0 fl fh ft)
  have h2 := E.tk0_same e fl fh ft
  unfold E.tk
  rw [h2.1, h2.2.1, h2.2.2] at h1
  exact h1
def E.top (e : E) (n : Nat) : Int :=
  if e.k + 4 ≤ n then 2 * e.low * 256 ^ (n - (e.k + 4)) else 2 * e.low / 256 ^ (e.k + 4 - n) + (if 2 * e.low % 256 ^ (e.k + 4 - n) = 0 then 0 else 1)
def E.mid (e : E) (n : Nat) : Int := e.top n - e.top n % 2 ^ e.r + e.raw
def E.out (e : E) (n : Nat) : Int := if e.mid n < e.top n then e.mid n + 2 ^ e.r else e.mid n
end Go.Pl
/-
  Chapter 4 in plain words: what renc's functions come to (the register, symbols, flags, bits, numbers).
  Conditions: none.
-/
namespace Go.Pl
open Go.Eng Go.Proofs
theorem set_mid {A B : List Int} {x y : Int} {n : Nat} (h : A.length = n) : (A ++ x :: B).set n y = A ++ y :: B := by
  subst h
  rw [List.set_append_right _ _ (Nat.le_refl _)]
  simp
theorem get_mid {A B : List Int} {x : Int} {n : Nat} (h : A.length = n) : (A ++ x :: B).getD n 0 = x := by
  subst h
  simp [List.getD_eq_getElem?_getD]
section
variable {N : Nat}
theorem carry_loop {ev er erb ec : Int} {et ew : List Int} {val rng rb c : Int} {raw : List Int} : ∀ (nn j : Nat) (m : Int) (suf : List Int), 0 ≤ m → m + 1 < 256 ^ j → j < nn → j < 1099511627776 →
    Rc.ecarry.loop1 N nn ev er erb ec et ew val rng rb c raw ((j : Int) - 1) (tb j m ++ suf) = some (.inr (val, rng, rb, c, tb j (m + 1) ++ suf, raw))
  | 0, j, m, suf, h0, h1, h2, _ => by omega
  | nn + 1, 0, m, suf, h0, h1, h2, _ => by simp at h1; omega
  | nn + 1, j + 1, m, suf, h0, h1, h2, h3 => by
    have e1 : tb (j + 1) m ++ suf = tb j (m / 256) ++ (m % 256) :: suf := by simp [tb]
    unfold Rc.ecarry.loop1
    simp only [br_dec, br_bne, chkI_same, chkL_same]
    rw [show (((j + 1 : Nat) : Int)) - 1 = (j : Int) by omega, if_pos (by omega), e1, Int.toNat_natCast, get_mid (tb_len _ _), set_mid (tb_len _ _), get_mid (tb_len _ _), u8_mod]
    rw [chk_pos (by simp [tb_len]; omega), chk_pos (by simp [tb_len]; omega), chk_pos (by simp [tb_len]; omega)]
    rw [Int.pow_succ] at h1
    by_cases hx : (m % 256 + 1) % 256 = 0
    · rw [if_pos hx, i64 (by omega) (by omega), carry_loop nn j (m / 256) _ (by omega) (by omega) (by omega) (by omega)]
      have : tb (j + 1) (m + 1) ++ suf = tb j (m / 256 + 1) ++ ((m % 256 + 1) % 256) :: suf := by
        simp only [tb, List.append_assoc, List.singleton_append]
        rw [show (m + 1) / 256 = m / 256 + 1 by omega, show (m + 1) % 256 = (m % 256 + 1) % 256 by omega]
      rw [this]
    · rw [if_neg hx, omap_of]
      have : tb (j + 1) (m + 1) ++ suf = tb j (m / 256) ++ ((m % 256 + 1) % 256) :: suf := by
        simp only [tb, List.append_assoc, List.singleton_append]
        rw [show (m + 1) / 256 = m / 256 by omega, show (m + 1) % 256 = (m % 256 + 1) % 256 by omega]
      rw [this]
theorem ecarry_F {val rng rb c : Int} {raw : List Int} {k : Nat} {T : Int} (h0 : 0 ≤ T) (h1 : T + 1 < 256 ^ k) (hk : k < 1099511627776) (hN : k < N) :
    Rc.ecarry.F N val rng rb c (tb k T) raw = some (val, rng, rb, c, tb k (T + 1), raw) := by
  unfold Rc.ecarry.F
  have h := carry_loop (N := N) (ev := val) (er := rng) (erb := rb) (ec := c) (et := tb k T) (ew := raw) (val := val) (rng := rng) (rb := rb) (c := c) (raw := raw) N k T [] h0 h1 hN hk
  simp only [List.append_nil] at h
  rw [tb_len, i64 (by omega) (by omega), h, osum_inr]
theorem p23 : (2 : Int) ^ min (Int.toNat (23 : Int)) IntKind.u64.bits = 8388608 := rfl
theorem E.step_told {e : E} (h0 : 0 ≤ e.low) : e.step.told = e.told ++ [e.val / 8388608] := by
  have : e.low * 256 / 2147483648 = e.low / 2147483648 * 256 + e.low % 2147483648 / 8388608 := by omega
  simp only [E.told, E.step, E.val]
  rw [tb_snoc _ _ (by omega) (by omega), this]
theorem E.step_val (e : E) : e.step.val = e.val * 256 % 2147483648 := by
  simp only [E.val, E.step]
  omega
theorem enorm_loop {rb : Int} {raw : List Int} : ∀ (nn n : Nat) (e : E) (c : Int), e.Pre → 8388608 < e.rng * 256 ^ n → 0 ≤ c → c + 8 * n < 1152921504606846976 → e.k + n < 1099511627776 → n < nn →
    Rc.enorm.loop3 N nn rb raw e.val e.rng c e.told = some ((E.norm n e).val, (E.norm n e).rng, c + 8 * (((E.norm n e).k - e.k : Nat) : Int), (E.norm n e).told)
  | 0, n, e, c, h, hn, hc0, hc1, hk, h0 => by omega
  | nn + 1, n, e, c, h, hn, hc0, hc1, hk, h0 => by
    unfold Rc.enorm.loop3
    simp only [br_dec, chkI_same, chkL_same, p8, p23]
    have hr1 := h.r1
    have hr0 := h.r0
    have hv : 0 ≤ e.val ∧ e.val < 2147483648 := by unfold E.val; omega
    by_cases hr : e.rng ≤ 8388608
    · rw [if_pos hr]
      cases n with
      | zero => simp at hn; omega
      | succ n =>
        have hs := h.step hr
        have ih := enorm_loop (rb := rb) (raw := raw) nn n e.step (c + 8) hs (by
          simp only [E.step]
          rw [Int.pow_succ] at hn
          rw [Int.mul_assoc, Int.mul_comm 256]
          exact hn) (by omega) (by omega) (by simp only [E.step]; omega) (by omega)
        rw [bits_u64, fdiv_ediv (by omega), u8 (x := e.val / 8388608) (by omega) (by omega), u64 (x := e.val * 256) (by omega) (by omega), and31 (by omega) (by omega), u64 (x := e.val * 256 % 2147483648) (by omega) (by omega),
          u64 (x := e.rng * 256) (by omega) (by omega), i64 (x := c + 8) (by omega) (by omega), chk_pos (by simp only [E.told, tb_len, List.length_singleton]; omega), ← E.step_told h.l0, ← E.step_val]
        rw [show e.rng * 256 = e.step.rng from rfl, ih]
        have hsame := E.norm_same n e.step
        have : (E.norm (n + 1) e) = E.norm n e.step := by simp only [E.norm]; rw [if_pos hr]
        rw [this]
        simp only [E.step] at hsame ⊢
        congr 4
        omega
    · rw [if_neg hr, E.norm_stop (by omega)]
      simp
theorem enorm_F {e : E} (h : e.Pre) {T v : Int} (hT : 0 ≤ T) (v0 : 0 ≤ v) (v1 : v < 4294967296) (hl : T * 2147483648 + v = e.low) {rb c : Int} {raw : List Int} (hc0 : 0 ≤ c) (hc1 : c < 1152921504606846900)
    (hk : e.k < 1099511627770) (hN : e.k + 300 ≤ N) :
    Rc.enorm.F N v e.rng rb c (tb e.k T) raw = some (e.on.val, e.on.rng, rb, c + 8 * ((e.on.k - e.k : Nat) : Int), raw, e.on.told) := by
  unfold Rc.enorm.F
  have hloop := enorm_loop (N := N) (rb := rb) (raw := raw) N 4 e c h (by have := h.r0; omega) hc0 (by omega) (by omega) (by omega)
  have hr0 := h.r0
  have hl1 := h.l1
  rw [br_dec]
  by_cases hv : v > 2147483647
  · have e1 : T + 1 = e.low / 2147483648 := by omega
    have e2 : v % 2147483648 = e.val := by unfold E.val; omega
    rw [if_pos hv, ecarry_F hT (by omega) (by omega) (by omega), obind_of]
    simp only
    rw [bits_u64, and31 v0 (by omega), u64 (x := v % 2147483648) (by omega) (by omega), e2, e1]
    have : tb e.k (e.low / 2147483648) = e.told := rfl
    rw [this, hloop, obind_of]
    rfl
  · have e1 : T = e.low / 2147483648 := by omega
    have e2 : v = e.val := by unfold E.val; omega
    rw [if_neg hv, e1, e2]
    have : tb e.k (e.low / 2147483648) = e.told := rfl
    rw [this, hloop, obind_of]
    rfl
structure E.Lim (N : Nat) (e : E) : Prop where
  k : e.k < 1099511627000
  r : e.r < 1099511627000
  N : e.k + 400 ≤ N
theorem E.val_range (e : E) : 0 ≤ e.val ∧ e.val < 2147483648 := by unfold E.val; omega
theorem E.count_on {e d : E} (hk : e.k ≤ d.k) (hr : d.r = e.r) : e.count + 8 * ((d.k - e.k : Nat) : Int) = d.count := by unfold E.count; rw [hr]; omega
theorem etake_F {e : E} (h : e.Ok) (hl : e.Lim N) {fl fh ft : Int} (p : Place fl fh ft) {raw : List Int} :
    Rc.etake.F N fl fh ft e.val e.rng e.r e.count e.told raw = some ((e.tk fl fh ft).val, (e.tk fl fh ft).rng, (e.r : Int), (e.tk fl fh ft).count, raw, (e.tk fl fh ft).told) := by
  unfold Rc.etake.F
  obtain ⟨k1, k2, k3, k4, k5, k6, k7⟩ := E.tk0_facts h p
  obtain ⟨a1, a2, a3, a4, a5⟩ := id p
  have k0 := (e_facts h.g a1 a2).2.2
  have hr1 := h.r1
  have hg := h.g
  have hpre := E.tk0_pre h p
  obtain ⟨v0, v1⟩ := e.val_range
  have hsame := E.tk_same e fl fh ft
  have hcnt := E.count_on (e := e) (d := e.tk fl fh ft) hsame.2.2.1 hsame.1
  obtain ⟨l1, l2, l3⟩ := hl
  have hcount : 0 ≤ e.count ∧ e.count < 1152921504606846900 := by unfold E.count; omega
  have hl0 := h.l0
  rw [chk_pos (by omega), br_dec, tdiv_ediv (by omega), u64 (x := e.rng / ft) (by omega) (by omega), u64 (x := ft - fl) (by omega) (by omega), u64 (x := fh - fl) (by omega) (by omega), u64 (x := ft - fh) (by omega) (by omega)]
  have hdiv : e.low / 2147483648 * 2147483648 + e.val = e.low := by unfold E.val; omega
  by_cases hf : fl > 0
  · have hf' : 0 < fl := hf
    have et : e.tk0 fl fh ft = ⟨e.k, e.low + (e.rng - e.rng / ft * (ft - fl)), e.rng / ft * (fh - fl), e.r, e.raw⟩ := by unfold E.tk0; rw [if_pos hf']
    rw [if_pos hf, u64 (x := e.rng / ft * (ft - fl)) (by omega) (by omega), u64 (x := e.rng - _) (by omega) (by omega), u64 (x := e.val + _) (by omega) (by omega), u64 (x := e.rng / ft * (fh - fl)) (by omega) (by omega)]
    rw [et] at hpre
    have := enorm_F (N := N) hpre (T := e.low / 2147483648) (v := e.val + (e.rng - e.rng / ft * (ft - fl))) (rb := e.r) (c := e.count) (raw := raw) (by omega) (by omega) (by omega) (by simp only; omega) hcount.1 hcount.2 (by simp only; omega) (by simp only; omega)
    simp only at this
    rw [show e.told = tb e.k (e.low / 2147483648) from rfl, this, obind_of]
    simp only
    rw [← et]
    show some ((e.tk fl fh ft).val, (e.tk fl fh ft).rng, (e.r : Int), e.count + 8 * (((e.tk fl fh ft).k - e.k : Nat) : Int), raw, (e.tk fl fh ft).told) = _
    rw [hcnt]
  · have hf' : ¬ 0 < fl := hf
    have et : e.tk0 fl fh ft = ⟨e.k, e.low, e.rng - e.rng / ft * (ft - fh), e.r, e.raw⟩ := by unfold E.tk0; rw [if_neg hf']
    rw [if_neg hf, u64 (x := e.rng / ft * (ft - fh)) (by omega) (by omega), u64 (x := e.rng - _) (by omega) (by omega)]
    rw [et] at hpre
    have := enorm_F (N := N) hpre (T := e.low / 2147483648) (v := e.val) (rb := e.r) (c := e.count) (raw := raw) (by omega) (by omega) (by omega) (by simp only; omega) hcount.1 hcount.2 (by simp only; omega) (by simp only; omega)
    simp only at this
    rw [show e.told = tb e.k (e.low / 2147483648) from rfl, this, obind_of]
    simp only
    rw [← et]
    show some ((e.tk fl fh ft).val, (e.tk fl fh ft).rng, (e.r : Int), e.count + 8 * (((e.tk fl fh ft).k - e.k : Nat) : Int), raw, (e.tk fl fh ft).told) = _
    rw [hcnt]
theorem le_snoc0 : ∀ (j : Nat) (R : Int), 0 ≤ R → R < 256 ^ j → le j R ++ [0] = le (j + 1) R
  | 0, R, h0, h1 => by
    simp at h1
    have : R = 0 := by omega
    subst this
    rfl
  | j + 1, R, h0, h1 => by
    rw [Int.pow_succ] at h1
    have := le_snoc0 j (R / 256) (by omega) (by omega)
    simp only [le, List.cons_append] at this ⊢
    rw [this]
theorem le_put {k j q : Nat} {R d : Int} (h0 : 0 ≤ R) (hR : R < 256 ^ j * 2 ^ q) (hq : q ≤ 7) (d0 : 0 ≤ d) (d1 : d ≤ 1) (hj : j < k) :
    (le k R).set j (R / 256 ^ j + d * 2 ^ q) = le k (R + d * (256 ^ j * 2 ^ q)) := by
  have hpj := p256pos j
  have hpq := p2pos q
  have hq7 : (2 : Int) ^ q ≤ 128 := p2le (b := 7) hq
  have hy0 : 0 ≤ R / 256 ^ j := Int.ediv_nonneg h0 (by omega)
  have hy1 : R / 256 ^ j < 2 ^ q := by rw [Int.ediv_lt_iff_lt_mul hpj, Int.mul_comm]; exact hR
  have hd : d * 2 ^ q ≤ 1 * 2 ^ q := Int.mul_le_mul_of_nonneg_right d1 (by omega)
  have hd0 : 0 ≤ d * 2 ^ q := Int.mul_nonneg d0 (by omega)
  apply le_ext (by simp [le_len])
  intro i hi
  simp only [List.length_set, le_len] at hi
  have e1 : d * (256 ^ j * 2 ^ q) = 256 ^ j * (d * 2 ^ q) := by rw [Int.mul_left_comm]
  rw [le_get k _ i hi, e1, List.getD_eq_getElem?_getD, List.getElem?_set]
  by_cases hij : j = i
  · subst hij
    rw [if_pos rfl, if_pos (by rw [le_len]; exact hi), Int.add_mul_ediv_left _ _ (by omega), Option.getD_some, Int.emod_eq_of_lt (by omega) (by omega)]
  · rw [if_neg hij, ← List.getD_eq_getElem?_getD, le_get k _ i hi]
    have hpi := p256pos i
    rcases Nat.lt_or_ge i j with h | h
    · have : (256 : Int) ^ j = 256 ^ i * (256 ^ (j - i - 1) * 256) := by rw [← Int.pow_succ, ← Int.pow_add]; congr 1; omega
      rw [this, Int.mul_assoc (256 ^ i), Int.add_mul_ediv_left _ _ (by omega), Int.mul_assoc (256 ^ (j - i - 1)), Int.mul_left_comm (256 ^ (j - i - 1)), Int.add_mul_emod_self_left]
    · have h2 : (256 : Int) ^ i = 256 ^ j * 256 * 256 ^ (i - j - 1) := by rw [← Int.pow_succ, ← Int.pow_add]; congr 1; omega
      have hp2 := p256pos (i - j - 1)
      have h3 : (256 : Int) ^ j * 256 * 1 ≤ 256 ^ j * 256 * 256 ^ (i - j - 1) := Int.mul_le_mul_of_nonneg_left (by omega) (by omega)
      have h4 : 256 ^ j * (d * 2 ^ q) ≤ 256 ^ j * 2 ^ q := Int.mul_le_mul_of_nonneg_left (by omega) (by omega)
      have h5 : (256 : Int) ^ j * 2 ^ q ≤ 256 ^ j * 128 := Int.mul_le_mul_of_nonneg_left hq7 (by omega)
      have h6 : 0 ≤ 256 ^ j * (d * 2 ^ q) := Int.mul_nonneg (by omega) hd0
      rw [Int.ediv_eq_zero_of_lt h0 (by omega), Int.ediv_eq_zero_of_lt (by omega) (by omega)]
theorem bit_of {v : Int} {i : Nat} (hi : i ≤ 24) : IntKind.u8.wrap (IntKind.i64.wrap ↑(BitVec.ofInt IntKind.i64.bits (v.fdiv (2 ^ min (i : Int).toNat IntKind.i64.bits)) &&& BitVec.ofInt IntKind.i64.bits 1).toNat) = v / 2 ^ i % 2 := by
  rw [bits_i64, Int.toNat_natCast, show min i 64 = i by omega, fdiv_ediv (by have := p2pos i; omega), and_mask_any (w := 64) (k := 1) (m := 1) _ rfl (by omega), show (2 : Int) ^ 1 = 2 from rfl, i64 (by omega) (by omega), u8 (by omega) (by omega)]
theorem or_bit {y d : Int} {q : Nat} (hq : q ≤ 7) (y0 : 0 ≤ y) (y1 : y < 2 ^ q) (d0 : 0 ≤ d) (d1 : d ≤ 1) :
    IntKind.u8.wrap ↑(BitVec.ofInt IntKind.u8.bits y ||| BitVec.ofInt IntKind.u8.bits (IntKind.u8.wrap (d * 2 ^ min q IntKind.u8.bits))).toNat = y + d * 2 ^ q := by
  have hpq := p2pos q
  have hq7 : (2 : Int) ^ q ≤ 128 := p2le (b := 7) hq
  have hd : d * 2 ^ q ≤ 1 * 2 ^ q := Int.mul_le_mul_of_nonneg_right d1 (by omega)
  have hd0 : 0 ≤ d * 2 ^ q := Int.mul_nonneg d0 (by omega)
  rw [bits_u8, show min q 8 = q by omega, u8 (x := d * 2 ^ q) hd0 (by omega), or_comm', or_add d0 (by show d * 2 ^ q < 256; omega) y0 y1 (by omega), u8 (by omega) (by omega)]
  omega
theorem ebits_loop {v : Int} {n : Nat} {val rng count : Int} {told : List Int} {r : Nat} {raw : Int} (hn : n ≤ 24) (w0 : 0 ≤ raw) (w1 : raw < 2 ^ r) (hr : r < 1099511627000) : ∀ (nn i : Nat), i ≤ n → n - i < nn →
    Rc.ebits.loop4 N nn v n val rng count told (i : Int) ((r + i : Nat) : Int) (le ((r + i + 7) / 8) (raw + v % 2 ^ i * 2 ^ r)) = some (((r + n : Nat) : Int), le ((r + n + 7) / 8) (raw + v % 2 ^ n * 2 ^ r))
  | 0, i, hi, h0 => by omega
  | nn + 1, i, hi, h0 => by
    unfold Rc.ebits.loop4
    simp only [br_dec, br_beq, chkI_same, chkL_same]
    by_cases hlt : i < n
    · have ih := ebits_loop (v := v) (val := val) (rng := rng) (count := count) (told := told) hn w0 w1 hr nn (i + 1) (by omega) (by omega)
      have hpi := p2pos i
      have hpr := p2pos r
      have hm0 := Int.emod_nonneg v (show (2 : Int) ^ i ≠ 0 by omega)
      have hm1 := Int.emod_lt_of_pos v hpi
      have hR0 : 0 ≤ raw + v % 2 ^ i * 2 ^ r := by have := Int.mul_nonneg hm0 (show 0 ≤ (2 : Int) ^ r by omega); omega
      have hR1 : raw + v % 2 ^ i * 2 ^ r < 256 ^ ((r + i) / 8) * 2 ^ ((r + i) % 8) := by
        rw [← pow_split, Int.pow_add]
        have : v % 2 ^ i * 2 ^ r ≤ (2 ^ i - 1) * 2 ^ r := Int.mul_le_mul_of_nonneg_right (by omega) (by omega)
        rw [Int.sub_mul, Int.one_mul, Int.mul_comm (2 ^ i)] at this
        omega
      have hnext : raw + v % 2 ^ (i + 1) * 2 ^ r = (raw + v % 2 ^ i * 2 ^ r) + v / 2 ^ i % 2 * (256 ^ ((r + i) / 8) * 2 ^ ((r + i) % 8)) := by
        rw [← pow_split, Int.pow_succ, emod_two_mul hpi, Int.add_mul, Int.pow_add, Int.mul_assoc, Int.mul_comm (2 ^ i) (2 ^ r)]
        omega
      have hd0 : 0 ≤ v / 2 ^ i % 2 ∧ v / 2 ^ i % 2 ≤ 1 := by omega
      have hpj := p256pos ((r + i) / 8)
      have hy0 : 0 ≤ (raw + v % 2 ^ i * 2 ^ r) / 256 ^ ((r + i) / 8) := Int.ediv_nonneg hR0 (by omega)
      have hy1 : (raw + v % 2 ^ i * 2 ^ r) / 256 ^ ((r + i) / 8) < 2 ^ ((r + i) % 8) := by rw [Int.ediv_lt_iff_lt_mul hpj, Int.mul_comm (2 ^ ((r + i) % 8))]; exact hR1
      have hq7 : (2 : Int) ^ ((r + i) % 8) ≤ 128 := p2le (b := 7) (by omega)
      rw [if_pos (by omega), tmod_emod (by omega), tdiv_ediv (by omega), i64 (x := ((r + i : Nat) : Int) / 8) (by omega) (by omega), i64 (x := (i : Int) + 1) (by omega) (by omega), i64 (x := ((r + i : Nat) : Int) + 1) (by omega) (by omega), bit_of (by omega),
        show ((r + i : Nat) : Int) / 8 = (((r + i) / 8 : Nat) : Int) by omega, show ((r + i : Nat) : Int) % 8 = (((r + i) % 8 : Nat) : Int) by omega, Int.toNat_natCast, Int.toNat_natCast]
      by_cases h8 : (r + i) % 8 = 0
      · have hlen : (r + i + 7) / 8 = (r + i) / 8 := by omega
        have hlen2 : (r + (i + 1) + 7) / 8 = (r + i) / 8 + 1 := by omega
        have happ : le ((r + i) / 8) (raw + v % 2 ^ i * 2 ^ r) ++ [0] = le ((r + i) / 8 + 1) (raw + v % 2 ^ i * 2 ^ r) := le_snoc0 _ _ hR0 (by rw [h8] at hR1; simpa using hR1)
        rw [if_pos (by omega), hlen, happ, chk_pos (by simp [le_len]; omega), chk_pos (by simp only [le_len]; omega), chk_pos (by omega), chk_pos (by omega), chk_pos (by simp only [le_len]; omega), le_get _ _ _ (by omega), Int.emod_eq_of_lt hy0 (by omega),
          or_bit (by omega) hy0 hy1 hd0.1 hd0.2, le_put hR0 hR1 (by omega) hd0.1 hd0.2 (by omega), ← hnext, ← hlen2]
        rw [show ((i + 1 : Nat) : Int) = (i : Int) + 1 by omega, show ((r + (i + 1) : Nat) : Int) = ((r + i : Nat) : Int) + 1 by omega] at ih
        exact ih
      · have hlen : (r + i + 7) / 8 = (r + i) / 8 + 1 := by omega
        have hlen2 : (r + (i + 1) + 7) / 8 = (r + i) / 8 + 1 := by omega
        rw [if_neg (by omega), hlen, chk_pos (by simp only [le_len]; omega), chk_pos (by omega), chk_pos (by omega), chk_pos (by simp only [le_len]; omega), le_get _ _ _ (by omega), Int.emod_eq_of_lt hy0 (by omega),
          or_bit (by omega) hy0 hy1 hd0.1 hd0.2, le_put hR0 hR1 (by omega) hd0.1 hd0.2 (by omega), ← hnext, ← hlen2]
        rw [show ((i + 1 : Nat) : Int) = (i : Int) + 1 by omega, show ((r + (i + 1) : Nat) : Int) = ((r + i : Nat) : Int) + 1 by omega] at ih
        exact ih
    · have : i = n := by omega
      subst this
      rw [if_neg (by omega)]
theorem ebits_F {e : E} (h : e.Ok) (l1 : e.k < 1099511627000) (l2 : e.r < 1099511627000) (l3 : 100 ≤ N) (v n : Int) {val rng : Int} {told : List Int} :
    Rc.ebits.F N v n val rng e.r e.count told e.bits =
      some (if 0 ≤ n ∧ n ≤ 24 ∧ 0 ≤ v ∧ v < 2 ^ n.toNat then (0, ((e.bt v n.toNat).r : Int), (e.bt v n.toNat).count, (e.bt v n.toNat).bits) else (1, (e.r : Int), e.count, e.bits)) := by
  unfold Rc.ebits.F
  simp only [br_dec, chkI_same, chkL_same]
  by_cases n0 : n < 0
  · rw [if_pos n0, if_neg (by omega)]
  by_cases n1 : n > 24
  · rw [if_neg n0, if_pos n1, if_neg (by omega)]
  by_cases v0 : v < 0
  · rw [if_neg n0, if_neg n1, if_pos v0, if_neg (by omega)]
  obtain ⟨k, rfl⟩ := Int.eq_ofNat_of_zero_le (show 0 ≤ n by omega)
  have hp := p2pos k
  have hp2 : (2 : Int) ^ k ≤ 16777216 := p2le (b := 24) (by omega)
  rw [if_neg n0, if_neg n1, if_neg v0, chk_pos (by omega), Int.toNat_natCast, bits_i64, show min k 64 = k by omega, Int.one_mul, i64 (x := 2 ^ k) (by omega) (by omega)]
  by_cases v1 : v ≥ 2 ^ k
  · rw [if_pos v1, if_neg (by omega)]
  have := ebits_loop (N := N) (v := v) (n := k) (val := val) (rng := rng) (count := e.count) (told := told) (by omega) h.w0 h.w1 l2 N 0 (by omega) (by omega)
  simp only [Int.pow_zero, Nat.add_zero, Int.emod_one, Int.zero_mul, Int.add_zero] at this
  rw [if_neg v1, if_pos (by omega)]
  have e0 : e.bits = le ((e.r + 7) / 8) e.raw := rfl
  rw [show ((0 : Nat) : Int) = 0 from rfl] at this
  rw [e0, this, obind_of, Int.emod_eq_of_lt (by omega) (by omega)]
  have hc : 0 ≤ e.count ∧ e.count < 1152921504606846900 := by unfold E.count; omega
  rw [i64 (by omega) (by omega)]
  have ec : e.count + k = (e.bt v k).count := by simp only [E.bt, E.count]; omega
  rw [ec]
  rfl
end
end Go.Pl
/-
  Chapter 4 in plain words: numbers below a bound, Tell, the end.
  Conditions: none.
-/
namespace Go.Pl
open Go.Eng Go.Proofs
def E.un (e : E) (v ft : Int) : E := if ft = 1 then e else if ft ≤ 256 then e.tk v (v + 1) ft else (e.tk (v / 2 ^ ub ft) (v / 2 ^ ub ft + 1) (uf ft)).bt (v % 2 ^ ub ft) (ub ft)
theorem un_place {v ft : Int} (v0 : 0 ≤ v) (v1 : v < ft) (h1 : ft ≤ 256) : Place v (v + 1) ft := ⟨by omega, by omega, v0, by omega, by omega⟩
theorem ug_place {v ft : Int} (v0 : 0 ≤ v) (v1 : v < ft) (h0 : 256 < ft) (h1 : ft ≤ 4294967295) : Place (v / 2 ^ ub ft) (v / 2 ^ ub ft + 1) (uf ft) ∧ 0 ≤ v / 2 ^ ub ft ∧ v / 2 ^ ub ft < 256 := by
  obtain ⟨b0, b1, b2, u0, u1⟩ := ub_range h0 h1
  have hp := p2pos (ub ft)
  have h2 : 0 ≤ v / 2 ^ ub ft := Int.ediv_nonneg v0 (by omega)
  have h3 : v / 2 ^ ub ft ≤ (ft - 1) / 2 ^ ub ft := Int.ediv_le_ediv hp (by omega)
  have h4 : uf ft = (ft - 1) / 2 ^ ub ft + 1 := rfl
  exact ⟨⟨u0, by omega, h2, by omega, by omega⟩, h2, by omega⟩
theorem E.un_ok {e : E} (h : e.Ok) {v ft : Int} (v0 : 0 ≤ v) (v1 : v < ft) (h1 : ft ≤ 4294967295) : (e.un v ft).Ok := by
  unfold E.un
  split
  · exact h
  · split
    · exact E.tk_ok h (un_place v0 v1 (by omega))
    · exact E.bt_ok (E.tk_ok h (ug_place v0 v1 (by omega) h1).1) (Int.emod_nonneg _ (by have := p2pos (ub ft); omega)) (Int.emod_lt_of_pos _ (p2pos _))
section
variable {N : Nat}
theorem E.Lim.tk {e : E} (hl : e.Lim (N + 4)) {fl fh ft : Int} (hk : e.k < 1099511626000) : (e.tk fl fh ft).Lim (N + 8) := by
  have := E.tk_same e fl fh ft
  obtain ⟨l1, l2, l3⟩ := hl
  exact ⟨by omega, by omega, by omega⟩
theorem and_low {v : Int} {k : Nat} (hk : k ≤ 24) : IntKind.i64.wrap ↑(BitVec.ofInt IntKind.i64.bits v &&& BitVec.ofInt IntKind.i64.bits (IntKind.i64.wrap (IntKind.i64.wrap (1 * 2 ^ min k IntKind.i64.bits) - 1))).toNat = v % 2 ^ k := by
  have h6 := p2pos k
  have h7 : (2 : Int) ^ k ≤ 16777216 := p2le (a := k) (b := 24) (by omega)
  have h8 := Int.emod_nonneg v (show (2 : Int) ^ k ≠ 0 by omega)
  have h9 := Int.emod_lt_of_pos v h6
  rw [bits_i64, show min k 64 = k by omega, Int.one_mul, i64 (x := 2 ^ k) (by omega) (by omega), i64 (x := 2 ^ k - 1) (by omega) (by omega),
    and_mask_any (w := 64) (k := k) (m := 2 ^ k - 1) v rfl (by omega), i64 (by omega) (by omega)]
theorem euint_F {e : E} (h : e.Ok) (hl : e.Lim N) (hk : e.k < 1099511626000) (v ft : Int) :
    Rc.euint.F N v ft e.val e.rng e.r e.count e.told e.bits =
      some (if 1 ≤ ft ∧ ft ≤ 4294967295 ∧ 0 ≤ v ∧ v < ft then (0, (e.un v ft).val, (e.un v ft).rng, ((e.un v ft).r : Int), (e.un v ft).count, (e.un v ft).told, (e.un v ft).bits) else (1, e.val, e.rng, (e.r : Int), e.count, e.told, e.bits)) := by
  unfold Rc.euint.F
  simp only [br_dec, br_beq]
  by_cases c1 : ft < 1
  · rw [if_pos c1, if_neg (by omega)]
  by_cases c2 : ft > 4294967295
  · rw [if_neg c1, if_pos c2, if_neg (by omega)]
  by_cases c3 : v < 0
  · rw [if_neg c1, if_neg c2, if_pos c3, if_neg (by omega)]
  by_cases c4 : v ≥ ft
  · rw [if_neg c1, if_neg c2, if_neg c3, if_pos c4, if_neg (by omega)]
  rw [if_neg c1, if_neg c2, if_neg c3, if_neg c4, if_pos (show 1 ≤ ft ∧ ft ≤ 4294967295 ∧ 0 ≤ v ∧ v < ft by omega)]
  by_cases c5 : ft = 1
  · rw [if_pos c5]
    have : e.un v ft = e := by unfold E.un; rw [if_pos c5]
    rw [this]
  by_cases c6 : ft ≤ 256
  · have eu : e.un v ft = e.tk v (v + 1) ft := by unfold E.un; rw [if_neg c5, if_pos c6]
    have hs := E.tk_same e v (v + 1) ft
    rw [if_neg c5, if_pos c6, u64 (x := v) (by omega) (by omega), i64 (x := v + 1) (by omega) (by omega), u64 (x := v + 1) (by omega) (by omega), u64 (x := ft) (by omega) (by omega), etake_F h hl (un_place (by omega) (by omega) c6), obind_of, eu]
    simp only [E.bits, hs.1, hs.2.1]
  · have eu : e.un v ft = (e.tk (v / 2 ^ ub ft) (v / 2 ^ ub ft + 1) (uf ft)).bt (v % 2 ^ ub ft) (ub ft) := by unfold E.un; rw [if_neg c5, if_neg c6]
    obtain ⟨b0, b1, b2, u0, u1⟩ := ub_range (ft := ft) (by omega) (by omega)
    obtain ⟨pl, q0, q1⟩ := ug_place (v := v) (ft := ft) (by omega) (by omega) (by omega) (by omega)
    have hok := E.tk_ok h pl
    have hs := E.tk_same e (v / 2 ^ ub ft) (v / 2 ^ ub ft + 1) (uf ft)
    obtain ⟨l1, l2, l3⟩ := id hl
    have hbits : (e.tk (v / 2 ^ ub ft) (v / 2 ^ ub ft + 1) (uf ft)).bits = e.bits := by simp only [E.bits, hs.1, hs.2.1]
    have hp := p2pos (ub ft)
    have m0 := Int.emod_nonneg v (show (2 : Int) ^ ub ft ≠ 0 by omega)
    have m1 := Int.emod_lt_of_pos v hp
    have euf : (ft - 1) / 2 ^ ub ft + 1 = uf ft := rfl
    rw [if_neg c5, if_neg c6, i64 (x := ft - 1) (by omega) (by omega), u64 (x := ft - 1) (by omega) (by omega), blen_F (by omega) (by omega), obind_of, b2, i64 (x := (ub ft : Int) + 8 - 8) (by omega) (by omega),
      show (ub ft : Int) + 8 - 8 = ub ft by omega, chk_pos (by omega), chk_pos (by omega), Int.toNat_natCast, and_low (by omega), bits_i64, show min (ub ft) 64 = ub ft by omega, fdiv_ediv (a := v) (by omega), fdiv_ediv (a := ft - 1) (by omega), euf,
      u64 (x := v / 2 ^ ub ft) (by omega) (by omega), u64 (x := v / 2 ^ ub ft + 1) (by omega) (by omega), i64 (x := uf ft) (by omega) (by omega), u64 (x := uf ft) (by omega) (by omega), etake_F h hl pl, obind_of, chk_pos (by omega)]
    simp only
    have hb := ebits_F (N := N) hok (by omega) (by omega) (by omega) (v % 2 ^ ub ft) (ub ft) (val := (e.tk (v / 2 ^ ub ft) (v / 2 ^ ub ft + 1) (uf ft)).val) (rng := (e.tk (v / 2 ^ ub ft) (v / 2 ^ ub ft + 1) (uf ft)).rng) (told := (e.tk (v / 2 ^ ub ft) (v / 2 ^ ub ft + 1) (uf ft)).told)
    rw [hs.1, hbits, Int.toNat_natCast, if_pos (by omega)] at hb
    rw [hb, obind_of, eu]
    rfl
end
end Go.Pl
/-
  Chapter 4 in plain words: what Done tells.
  Conditions: none.
-/
namespace Go.Pl
open Go.Eng Go.Proofs
section
variable {N : Nat}
end
end Go.Pl
/-
  Chapter 4 in plain words: numbers that are small as a rule.
  Conditions: none.
-/
namespace Go.Pl
open Go.Eng Go.Proofs
def Lp.it (decay : Int) : Nat → Lp → Lp
  | 0, p => p
  | n + 1, p => Lp.it decay n (p.step decay)
structure Lp.Sm (p : Lp) : Prop where
  s0 : 1 ≤ p.s
  s1 : p.s ≤ 20000
theorem Lp.Sm.step {decay : Int} (d0 : 0 ≤ decay) (d1 : decay ≤ 16000) {p : Lp} (h : p.Sm) : (p.step decay).Sm ∧ 0 ≤ (2 * p.s - 2) * decay ∧ (2 * p.s - 2) * decay ≤ (2 * p.s - 2) * 16000 := by
  obtain ⟨h3, h4⟩ := h
  have k1 : 0 ≤ (2 * p.s - 2) * decay := Int.mul_nonneg (by omega) d0
  have k2 : (2 * p.s - 2) * decay ≤ (2 * p.s - 2) * 16000 := Int.mul_le_mul_of_nonneg_left d1 (by omega)
  exact ⟨⟨by simp only [Lp.step]; omega, by simp only [Lp.step]; omega⟩, k1, k2⟩
theorem Lp.it_facts {decay : Int} (d0 : 0 ≤ decay) (d1 : decay ≤ 16000) : ∀ (n : Nat) (p : Lp), p.Sm → (Lp.it decay n p).Sm ∧ p.l + 2 * n ≤ (Lp.it decay n p).l ∧ (Lp.it decay n p).v = p.v + n
  | 0, p, h => ⟨h, by simp [Lp.it], by simp [Lp.it]⟩
  | n + 1, p, h => by
    obtain ⟨h1, h2, h3⟩ := Lp.it_facts d0 d1 n (p.step decay) (h.step d0 d1).1
    have := h.s0
    simp only [Lp.it]
    refine ⟨h1, ?_, ?_⟩
    · simp only [Lp.step] at h2; simp only [Lp.step]; omega
    · simp only [Lp.step] at h3; simp only [Lp.step]; omega
theorem Lp.it_one {decay : Int} : ∀ (n : Nat) (p : Lp), p.s = 1 → Lp.it decay n p = ⟨p.l + 2 * n, p.v + n, 1⟩
  | 0, p, h => by cases p; simp at h; subst h; simp [Lp.it]
  | n + 1, p, h => by
    have hs : p.step decay = ⟨p.l + 2, p.v + 1, 1⟩ := by simp [Lp.step, h]
    simp only [Lp.it]
    rw [hs, Lp.it_one n _ rfl, Lp.mk.injEq]
    exact ⟨by simp only; omega, by simp only; omega, rfl⟩
def lapOf (f : Int) (p : Lp) : Lp := if f < p.l + p.s then ⟨p.l, -p.v, p.s⟩ else ⟨p.l + p.s, p.v, p.s⟩
theorem lap_it {decay f : Int} (d0 : 0 ≤ decay) (d1 : decay ≤ 16000) : ∀ (i n : Nat) (p : Lp), p.Sm → f < p.l + 4 * n → (Lp.it decay i p).l ≤ f → f < (Lp.it decay i p).l + 2 * (Lp.it decay i p).s →
    lapEnd f (Lp.run decay f n p) = lapOf f (Lp.it decay i p)
  | 0, n, p, h, hn, h1, h2 => by
    simp only [Lp.it] at h1 h2 ⊢
    have hr : Lp.run decay f n p = p := by
      cases n with
      | zero => rfl
      | succ n => simp only [Lp.run]; rw [if_neg (by omega)]
    rw [hr]
    unfold lapEnd lapOf
    have := h.s0
    by_cases hs : p.s ≤ 1
    · have e1 : (f - p.l) / 2 = 0 := by omega
      simp only [if_pos hs, e1]
      simp
    · simp only [if_neg hs]
  | i + 1, 0, p, h, hn, h1, h2 => by
    have := (Lp.it_facts d0 d1 (i + 1) p h).2.1
    omega
  | i + 1, n + 1, p, h, hn, h1, h2 => by
    obtain ⟨g1, g2, g3⟩ := Lp.it_facts d0 d1 i (p.step decay) (h.step d0 d1).1
    simp only [Lp.it] at h1 h2
    have hs0 := h.s0
    by_cases hs : 1 < p.s
    · have el : (p.step decay).l = p.l + 2 * p.s := rfl
      have : p.l + 2 * p.s ≤ f := by omega
      simp only [Lp.run]
      rw [if_pos ⟨hs, this⟩]
      exact lap_it d0 d1 i n _ (h.step d0 d1).1 (by rw [el]; omega) h1 h2
    · have h1s : p.s = 1 := by omega
      have hr : Lp.run decay f (n + 1) p = p := by simp only [Lp.run]; rw [if_neg (by omega)]
      have hi := Lp.it_one (decay := decay) (i + 1) p h1s
      simp only [Lp.it] at hi
      rw [hi] at h1 h2
      simp only [Lp.it]
      rw [hr, hi]
      simp only at h1 h2
      have e1 : (f - p.l) / 2 = ((i + 1 : Nat) : Int) := by omega
      unfold lapEnd lapOf
      simp only [e1, h1s, Int.le_refl, if_true]
def plR (decay up sg : Int) (i : Nat) (p : Lp) : Int × Int × Int :=
  (sg * (Lp.it decay i p).v, (Lp.it decay i p).l + up * (Lp.it decay i p).s, min ((Lp.it decay i p).l + up * (Lp.it decay i p).s + (Lp.it decay i p).s) 32768)
def plOut (decay up : Int) (i : Nat) (p : Lp) : Prop := (Lp.it decay i p).l + up * (Lp.it decay i p).s ≥ 32768
theorem start_sm {fs decay : Int} (h0 : 256 ≤ fs) (h1 : fs ≤ 28000) (d0 : 0 ≤ decay) (d1 : decay ≤ 16000) : (Lp.start fs decay).Sm ∧ (Lp.start fs decay).l + (Lp.start fs decay).s < 32768 ∧ 0 ≤ (32736 - fs) * (16384 - decay) ∧ (32736 - fs) * (16384 - decay) ≤ (32736 - fs) * 16384 := by
  have k1 : 0 ≤ (32736 - fs) * (16384 - decay) := Int.mul_nonneg (by omega) (by omega)
  have k2 : (32736 - fs) * (16384 - decay) ≤ (32736 - fs) * 16384 := Int.mul_le_mul_of_nonneg_left (by omega) (by omega)
  exact ⟨⟨by simp only [Lp.start]; omega, by simp only [Lp.start]; omega⟩, by simp only [Lp.start]; omega, k1, k2⟩
structure Lap (fs decay v : Int) (r : Int × Int × Int) : Prop where
  z : v = 0 → r = (0, 0, fs)
  nz : v ≠ 0 → ∃ (up sg : Int) (i : Nat), (0 < v ∧ up = 1 ∧ sg = 1 ∨ v < 0 ∧ up = 0 ∧ sg = -1) ∧ i < 16300 ∧ (∀ j, j ≤ i → ¬ plOut decay up j (Lp.start fs decay)) ∧ 1 + (i : Int) ≤ sg * v ∧ (1 + (i : Int) = sg * v ∨ plOut decay up (i + 1) (Lp.start fs decay)) ∧ r = plR decay up sg i (Lp.start fs decay)
theorem Lap.place {fs decay v : Int} {r : Int × Int × Int} (h0 : 256 ≤ fs) (h1 : fs ≤ 28000) (d0 : 0 ≤ decay) (d1 : decay ≤ 16000) (h : Lap fs decay v r) :
    Place r.2.1 r.2.2 32768 ∧ (∀ f, r.2.1 ≤ f → f < r.2.2 → (lapAt f fs decay).l = r.2.1 ∧ lapH (lapAt f fs decay) = r.2.2 ∧ (lapAt f fs decay).v = r.1) ∧ (0 ≤ v → 0 ≤ r.1 ∧ r.1 ≤ v) ∧ (v ≤ 0 → r.1 ≤ 0 ∧ v ≤ r.1) := by
  obtain ⟨sm, sl, _, _⟩ := start_sm h0 h1 d0 d1
  by_cases hz : v = 0
  · rw [h.z hz]
    refine ⟨⟨by omega, by omega, by simp only; omega, by simp only; omega, by simp only; omega⟩, fun f f0 f1 => ?_, fun _ => by simp only; omega, fun _ => by simp only; omega⟩
    simp only at f0 f1
    unfold lapAt
    rw [if_neg (by omega)]
    refine ⟨rfl, ?_, rfl⟩
    unfold lapH
    simp only
    omega
  · obtain ⟨up, sg, i, hu, hi, i1, i2, i3, rfl⟩ := h.nz hz
    obtain ⟨g1, g2, g3⟩ := Lp.it_facts d0 d1 i (Lp.start fs decay) sm
    have hno := i1 i (Nat.le_refl _)
    unfold plOut at hno
    have hv : (Lp.start fs decay).v = 1 := rfl
    have hl : (Lp.start fs decay).l = fs := rfl
    obtain ⟨s0, s1⟩ := g1
    unfold plR
    have hus : 0 ≤ up * (Lp.it decay i (Lp.start fs decay)).s ∧ up * (Lp.it decay i (Lp.start fs decay)).s ≤ (Lp.it decay i (Lp.start fs decay)).s := by
      rcases hu with ⟨_, rfl, _⟩ | ⟨_, rfl, _⟩ <;> simp <;> omega
    refine ⟨⟨by omega, by omega, by simp only; omega, by simp only; omega, by simp only; omega⟩, fun f f0 f1 => ?_, fun hp => ?_, fun hp => ?_⟩
    · simp only at f0 f1 ⊢
      have hf : f < (Lp.it decay i (Lp.start fs decay)).l + 2 * (Lp.it decay i (Lp.start fs decay)).s := by omega
      unfold lapAt
      rw [if_pos (show f ≥ fs by omega), lap_it d0 d1 i 8192 (Lp.start fs decay) sm (by omega) (by omega) hf]
      unfold lapOf lapH
      rcases hu with ⟨_, rfl, rfl⟩ | ⟨_, rfl, rfl⟩
      · simp only [Int.one_mul] at f0 f1 ⊢
        rw [if_neg (by omega)]
        simp
      · simp only [Int.zero_mul, Int.add_zero] at f0 f1 ⊢
        rw [if_pos (by omega)]
        simp only [true_and]
        omega
    · rcases hu with ⟨_, rfl, rfl⟩ | ⟨hn, _⟩
      · simp only [Int.one_mul] at i2 ⊢; omega
      · omega
    · rcases hu with ⟨hn, _⟩ | ⟨_, rfl, rfl⟩
      · omega
      · simp only at i2 ⊢; omega
end Go.Pl
/-
  Chapter 4 in plain words: each writing, and what a reader finds of it.
  Conditions: none.
-/
namespace Go.Pl
open Go.Eng Go.Proofs
structure E.Low (e : E) : Prop where
  k : e.k ≤ 10000
  r : e.r ≤ 100000
theorem E.Low.lim {N : Nat} {e : E} (h : e.Low) (hN : 30000 ≤ N) : e.Lim N := ⟨by have := h.k; omega, by have := h.r; omega, by have := h.k; omega⟩
def E.new : E := ⟨0, 0, 2147483648, 0, 0⟩
theorem E.new_ok : E.new.Ok := ⟨⟨by decide, by decide, by decide, by decide, by decide, by decide⟩, by decide⟩
theorem enew_F {N : Nat} : Rc.enew.F N = some (E.new.val, E.new.rng, (E.new.r : Int), E.new.count, E.new.told, E.new.bits) := rfl
section
variable {N : Nat}
end
section
variable {b : List Int} {e : E}
end
end Go.Pl
/-
  Layer 20's statements stand here in the place of layer 19's.
  Conditions: none.
-/
/-
  Layer 19, common parts: what is expected, the reading of energies by the program and by its plain twin.
  Conditions: none.
-/
namespace Go.Pl
open Go.Eng Go.Proofs
def cl (v : Int) : Int := if v < 0 then 0 else if v > 100 then 100 else v
theorem cl_range (v : Int) : 0 ≤ cl v ∧ cl v ≤ 100 := by
  unfold cl
  split
  · omega
  · split <;> omega
theorem eclamp_F {N : Nat} (v : Int) : Rc.eclamp.F N v = some (cl v) := by
  unfold Rc.eclamp.F cl
  congr 1
  split <;> split <;> first | rfl | omega | (exfalso; omega) | (split <;> first | rfl | (exfalso; omega))
section
variable {N : Nat} {back window wait waiting eq : Int} {bad : Bool} {b : List Int}
end
end Go.Pl
/-
  Layer 19: the sizes of the energies, and which number is nearest.
  Conditions: none.
-/
namespace Go.Pl
open Go.Eng Go.Proofs
set_option maxRecDepth 100000
def szT : List Int := [1, 1, 1, 2, 2, 2, 3, 3, 4, 5, 6, 7, 8, 10, 11, 13, 16, 19, 23, 27, 32, 38, 45, 54, 64, 76, 91, 108, 128, 152, 181, 215, 256, 304, 362, 431, 512, 609, 724, 861, 1024, 1218, 1448, 1722, 2048, 2435, 2896, 3444, 4096, 4871, 5793, 6889, 8192, 9742, 11585, 13777, 16384, 19484, 23170, 27554, 32768, 38968, 46341, 55109, 65536, 77936, 92682, 110218, 131072, 155872, 185364, 220436, 262144, 311744, 370728, 440872, 524288, 623487, 741455, 881744, 1048576, 1246974, 1482910, 1763488, 2097152, 2493948, 2965821, 3526975, 4194304, 4987896, 5931642, 7053950, 8388608, 9975792, 11863283, 14107901, 16777216, 19951585, 23726566, 28215802, 33554432]
def sz (i : Int) : Int := szT.getD i.toNat 0
theorem exp2_all (N : Nat) : (List.range 101).map (fun (i : Nat) => Rc.exp2.F (N + 1000) (64 * (i : Int))) = szT.map some := by kernel_rfl
theorem sz_mono1 : ∀ i : Fin 100, szT.getD i.val 0 ≤ szT.getD (i.val + 1) 0 := by decide +kernel
theorem sz_bnd : ∀ i : Fin 101, 0 ≤ szT.getD i.val 0 ∧ szT.getD i.val 0 ≤ 33554432 := by decide +kernel
theorem of_all {f : Nat → Option Int} (h : (List.range 101).map f = szT.map some) {i : Nat} (hi : i ≤ 100) : f i = some (szT.getD i 0) := by
  have e := congrArg (fun l => l[i]?) h
  simp only [List.getElem?_map] at e
  have hl : szT.length = 101 := by decide +kernel
  rw [List.getElem?_range (by omega), List.getElem?_eq_getElem (by omega)] at e
  simp only [Option.map_some, Option.some.injEq] at e
  rw [e, List.getD_eq_getElem?_getD, List.getElem?_eq_getElem (by omega)]
  rfl
theorem sz_le : ∀ (d i : Nat), i + d ≤ 100 → szT.getD i 0 ≤ szT.getD (i + d) 0
  | 0, i, _ => Int.le_refl _
  | d + 1, i, h => Int.le_trans (sz_le d i (by omega)) (sz_mono1 ⟨i + d, by omega⟩)
theorem sz_mono {a b : Int} (_ : 0 ≤ a) (h : a ≤ b) (h1 : b ≤ 100) : sz a ≤ sz b := by
  have := sz_le (b.toNat - a.toNat) a.toNat (by omega)
  rw [show a.toNat + (b.toNat - a.toNat) = b.toNat by omega] at this
  exact this
theorem sz_range {a : Int} (h0 : 0 ≤ a) (h1 : a ≤ 100) : 0 ≤ sz a ∧ sz a ≤ 33554432 := sz_bnd ⟨a.toNat, by omega⟩
section
variable {N : Nat}
theorem esize_F (hN : 1000 ≤ N) (v : Int) : Rc.esize.F N v = some (sz (cl v)) := by
  obtain ⟨k, rfl⟩ : ∃ k, N = k + 1000 := ⟨N - 1000, by omega⟩
  have hc := cl_range v
  have h := of_all (exp2_all k) (i := (cl v).toNat) (by omega)
  rw [show ((cl v).toNat : Int) = cl v by omega] at h
  unfold Rc.esize.F
  rw [eclamp_F, obind_of, i64 (by omega) (by omega), h, obind_of]
  rfl
end
theorem cl_same {v : Int} (h0 : 0 ≤ v) (h1 : v ≤ 100) : cl v = v := by unfold cl; rw [if_neg (by omega), if_neg (by omega)]
def ds (v i : Int) : Int := if v ≤ sz i then sz i - v else v - sz i
def cut (v : Int) : Int := if v < 0 then 0 else if v > 67108864 then 67108864 else v
section
variable {N : Nat}
end
end Go.Pl
/-
  Layer 20: pieces, their shares of the bits, and how many pulses these tell: both books alike.
  Conditions: none.
-/
namespace Go.Pl
open Go.Eng Go.Proofs
def seqL (f : Nat → Int) : Nat → Nat → List Int
  | _, 0 => []
  | i, m + 1 => f i :: seqL f (i + 1) m
theorem seqL_len (f : Nat → Int) : ∀ (m i : Nat), (seqL f i m).length = m
  | 0, _ => rfl
  | m + 1, i => by simp [seqL, seqL_len f m]
theorem seqL_get (f : Nat → Int) : ∀ (m i j : Nat), j < m → (seqL f i m).getD j 0 = f (i + j)
  | 0, _, _, h => by omega
  | m + 1, i, 0, _ => by simp [seqL]
  | m + 1, i, j + 1, h => by
    have := seqL_get f m (i + 1) j (by omega)
    simp only [seqL, List.getD_cons_succ]
    rw [this, show i + 1 + j = i + (j + 1) by omega]
def pN (n : Int) : Nat := ((n + 15) / 16).toNat
def pcv (n : Int) (i : Nat) : Int := ((i : Int) + 1) * n / pN n - (i : Int) * n / pN n
def pcs (n : Int) : List Int := seqL (pcv n) 0 (pN n)
theorem pN_range {n : Int} (h0 : 1 ≤ n) (h1 : n ≤ 1000) : 1 ≤ pN n ∧ pN n ≤ 63 ∧ (pN n : Int) = (n + 15) / 16 := by unfold pN; omega
theorem pc_small {n : Int} (h0 : 1 ≤ n) (h1 : n ≤ 1000) {i : Nat} (hi : i ≤ 63) : 0 ≤ (i : Int) * n ∧ (i : Int) * n ≤ 63000 := by
  have a := Int.mul_le_mul (show (i : Int) ≤ 63 by omega) h1 (by omega) (by omega)
  have b := Int.mul_nonneg (show (0 : Int) ≤ i by omega) (show 0 ≤ n by omega)
  omega
theorem pc_div {n : Int} (h0 : 1 ≤ n) (h1 : n ≤ 1000) (i : Nat) : (i : Int) * n / pN n + 1 ≤ ((i : Int) + 1) * n / pN n ∧ ((i : Int) + 1) * n / pN n ≤ (i : Int) * n / pN n + 16 := by
  obtain ⟨p0, _, p2⟩ := pN_range h0 h1
  have e : ((i : Int) + 1) * n = i * n + n := by grind
  rw [e]
  generalize (i : Int) * n = x
  generalize (pN n : Int) = p at *
  have q1 := Int.mul_ediv_add_emod x p
  have q2 := Int.emod_nonneg x (show p ≠ 0 by omega)
  have q3 := Int.emod_lt_of_pos x (show 0 < p by omega)
  constructor
  · rw [Int.le_ediv_iff_mul_le (by omega)]
    have : (x / p + 1) * p = p * (x / p) + p := by grind
    omega
  · have : (x + n) / p < x / p + 17 := by
      rw [Int.ediv_lt_iff_lt_mul (by omega)]
      have : (x / p + 17) * p = p * (x / p) + 17 * p := by grind
      omega
    omega
theorem pcv_range {n : Int} (h0 : 1 ≤ n) (h1 : n ≤ 1000) (i : Nat) : 1 ≤ pcv n i ∧ pcv n i ≤ 16 := by
  have := pc_div h0 h1 i
  unfold pcv
  omega
section
variable {N : Nat}
theorem apieces_F {n : Int} (h0 : 1 ≤ n) (h1 : n ≤ 1000) : Rc.apieces.F N n = some (pN n : Int) := by
  unfold Rc.apieces.F
  simp only [br_dec]
  obtain ⟨p0, _, p2⟩ := pN_range h0 h1
  rw [if_neg (by omega), if_neg (by omega), i64 (x := n + 16) (by omega) (by omega), i64 (x := n + 16 - 1) (by omega) (by omega), tdiv_ediv (by omega), i64 (by omega) (by omega), p2, show n + 16 - 1 = n + 15 by omega]
theorem pcs_step {n : Int} (h0 : 1 ≤ n) (h1 : n ≤ 1000) {i : Nat} (hi : i < 63) :
    IntKind.i64.wrap (IntKind.i64.wrap ((IntKind.i64.wrap (IntKind.i64.wrap ((i : Int) + 1) * n)).tdiv (pN n : Int)) - IntKind.i64.wrap ((IntKind.i64.wrap ((i : Int) * n)).tdiv (pN n : Int))) = pcv n i := by
  have a := pc_small h0 h1 (i := i) (by omega)
  have b := pc_small h0 h1 (i := i + 1) (by omega)
  rw [show ((i + 1 : Nat) : Int) = (i : Int) + 1 by omega] at b
  obtain ⟨p0, _, _⟩ := pN_range h0 h1
  have d1 := Int.ediv_nonneg a.1 (show (0 : Int) ≤ pN n by omega)
  have d2 := Int.ediv_nonneg b.1 (show (0 : Int) ≤ pN n by omega)
  have d3 := Int.ediv_le_self (pN n : Int) a.1
  have d4 := Int.ediv_le_self (pN n : Int) b.1
  rw [i64 (x := (i : Int) + 1) (by omega) (by omega), i64 (x := ((i : Int) + 1) * n) (by omega) (by omega), i64 (x := (i : Int) * n) (by omega) (by omega), tdiv_ediv b.1, tdiv_ediv a.1, i64 (x := ((i : Int) + 1) * n / pN n) (by omega) (by omega), i64 (x := (i : Int) * n / pN n) (by omega) (by omega), i64 (x := ((i : Int) + 1) * n / pN n - (i : Int) * n / pN n) (by omega) (by omega)]
  rfl
theorem aPieces_loop {n : Int} (h0 : 1 ≤ n) (h1 : n ≤ 1000) : ∀ (nn m i : Nat) (A : List Int), i + m = pN n → A.length ≤ 100 + i → m < nn →
    Rc.aPieces.loop4 N nn n (pN n) (pN n) i A = some (A ++ seqL (pcv n) i m)
  | 0, _, _, _, _, _, h => by omega
  | nn + 1, 0, i, A, hi, hA, h => by
    unfold Rc.aPieces.loop4
    simp only [br_dec]
    rw [if_neg (by omega)]
    simp [seqL]
  | nn + 1, m + 1, i, A, hi, hA, h => by
    obtain ⟨p0, p1, _⟩ := pN_range h0 h1
    unfold Rc.aPieces.loop4
    simp only [br_dec, chkI_same]
    rw [if_pos (by omega), chk_pos (by omega), chk_pos (by omega), pcs_step h0 h1 (by omega), chk_pos (by simp; omega), i64 (x := (i : Int) + 1) (by omega) (by omega)]
    have ih := aPieces_loop h0 h1 nn m (i + 1) (A ++ [pcv n i]) (by omega) (by simp; omega) (by omega)
    rw [show ((i + 1 : Nat) : Int) = (i : Int) + 1 by omega] at ih
    rw [ih]
    simp [seqL]
theorem aPieces_F {n : Int} (h0 : 1 ≤ n) (h1 : n ≤ 1000) (hN : 100 ≤ N) : Rc.aPieces.F N n = some (pcs n) := by
  obtain ⟨p0, p1, _⟩ := pN_range h0 h1
  unfold Rc.aPieces.F
  have h := aPieces_loop (N := N) h0 h1 N (pN n) 0 [] (by omega) (by simp) (by omega)
  rw [show ((0 : Nat) : Int) = 0 from rfl, List.nil_append] at h
  rw [apieces_F h0 h1, obind_of, h, obind_of]
  rfl
def spv (n b : Int) (i : Nat) : Int := if (i : Int) < b % pN n then b / pN n + 1 else b / pN n
def spl (n b : Int) : List Int := seqL (spv n b) 0 (pN n)
theorem asplit_loop {n b : Int} (h0 : 1 ≤ n) (h1 : n ≤ 1000) (b0 : 0 ≤ b) (b1 : b ≤ 1048576) : ∀ (nn m i : Nat) (A : List Int), i + m = pN n → A.length ≤ 100 + i → m < nn →
    Rc.asplit.loop5 N nn b (pN n) (pN n) i A = some (A ++ seqL (spv n b) i m)
  | 0, _, _, _, _, _, h => by omega
  | nn + 1, 0, i, A, hi, hA, h => by
    unfold Rc.asplit.loop5
    simp only [br_dec]
    rw [if_neg (by omega)]
    simp [seqL]
  | nn + 1, m + 1, i, A, hi, hA, h => by
    obtain ⟨p0, p1, _⟩ := pN_range h0 h1
    have d1 := Int.ediv_nonneg b0 (show (0 : Int) ≤ pN n by omega)
    have d3 := Int.ediv_le_self (pN n : Int) b0
    have ih := asplit_loop h0 h1 b0 b1 nn m (i + 1) (A ++ [spv n b i]) (by omega) (by simp; omega) (by omega)
    rw [show ((i + 1 : Nat) : Int) = (i : Int) + 1 by omega] at ih
    unfold Rc.asplit.loop5
    simp only [br_dec, chkI_same]
    rw [if_pos (by omega), chk_pos (by omega), chk_pos (by omega), tmod_emod b0, tdiv_ediv b0, i64 (x := b / pN n) (by omega) (by omega), i64 (x := b / pN n + 1) (by omega) (by omega), i64 (x := (i : Int) + 1) (by omega) (by omega)]
    by_cases c : (i : Int) < b % pN n
    · have hv : spv n b i = b / pN n + 1 := if_pos c
      rw [hv] at ih
      rw [if_pos c, chk_pos (by simp; omega), ih]
      simp [seqL, hv]
    · have hv : spv n b i = b / pN n := if_neg c
      rw [hv] at ih
      rw [if_neg c, chk_pos (by simp; omega), ih]
      simp [seqL, hv]
theorem asplit_F {n b : Int} (h0 : 1 ≤ n) (h1 : n ≤ 1000) (b0 : 0 ≤ b) (b1 : b ≤ 1048576) (hN : 100 ≤ N) : Rc.asplit.F N n b = some (spl n b) := by
  obtain ⟨p0, p1, _⟩ := pN_range h0 h1
  unfold Rc.asplit.F
  have h := asplit_loop (N := N) h0 h1 b0 b1 N (pN n) 0 [] (by omega) (by simp) (by omega)
  rw [show ((0 : Nat) : Int) = 0 from rfl, List.nil_append] at h
  rw [apieces_F h0 h1, obind_of, if_neg (show ¬ (0 : Int) > b by omega), if_neg (by omega), h, obind_of]
  rfl
end
theorem cnt_mono1 (n k : Nat) : cnt (n + 1) k ≤ cnt (n + 1) (k + 1) := by
  rw [cnt_succ]
  have h1 := (cnt_small (n + 1) k)
  have h2 := (cnt_small n (k + 1))
  have h3 := (cnt_small n k)
  omega
def tells (n : Nat) (b : Int) (k : Nat) : Prop := bl (cnt n k - 1) ≤ b
theorem tells_down {n : Nat} {b : Int} : ∀ {k : Nat} (d : Nat), tells (n + 1) b (k + d) → tells (n + 1) b k
  | _, 0, h => h
  | k, d + 1, h => by
    refine tells_down d ?_
    unfold tells at *
    have := bl_mono (x := cnt (n + 1) (k + d) - 1) (y := cnt (n + 1) (k + (d + 1)) - 1) (by have := cnt_mono1 n (k + d); rw [show k + d + 1 = k + (d + 1) from rfl] at this; omega)
    omega
def kF (n : Nat) (b : Int) : Nat → Nat → Nat
  | 0, k => k
  | f + 1, k => if bl (cnt n (k + 1) - 1) ≤ b then kF n b f (k + 1) else k
theorem kF_spec (n : Nat) (b : Int) : ∀ (f k : Nat), k ≤ kF n b f k ∧ kF n b f k ≤ k + f ∧ (k < kF n b f k → tells n b (kF n b f k)) ∧ (kF n b f k < k + f → ¬ tells n b (kF n b f k + 1))
  | 0, k => by simp [kF]
  | f + 1, k => by
    simp only [kF]
    by_cases c : bl (cnt n (k + 1) - 1) ≤ b
    · rw [if_pos c]
      obtain ⟨a1, a2, a3, a4⟩ := kF_spec n b f (k + 1)
      refine ⟨by omega, by omega, fun _ => ?_, fun h => a4 (by omega)⟩
      by_cases d : k + 1 < kF n b f (k + 1)
      · exact a3 d
      · rw [show kF n b f (k + 1) = k + 1 by omega]; exact c
    · rw [if_neg c]
      exact ⟨by omega, by omega, fun h => by omega, fun _ => c⟩
def kOf (n : Nat) (b : Int) : Nat := kF n b (mostT n).toNat 0
theorem kOf_le (n : Nat) (b : Int) : (kOf n b : Int) ≤ mostT n ∧ (kOf n b : Int) ≤ 64 := by
  have h := (kF_spec n b (mostT n).toNat 0).2.1
  have := mostT_range n
  unfold kOf
  omega
theorem kOf_eq {n : Nat} {b : Int} {k : Nat} (hk : k ≤ (mostT (n + 1 : Nat)).toNat) (h1 : 0 < k → tells (n + 1) b k) (h2 : k < (mostT (n + 1 : Nat)).toNat → ¬ tells (n + 1) b (k + 1)) : kOf (n + 1) b = k := by
  obtain ⟨_, a2, a3, a4⟩ := kF_spec (n + 1) b (mostT (n + 1 : Nat)).toNat 0
  change kOf (n + 1) b ≤ _ at a2
  change 0 < kOf (n + 1) b → tells (n + 1) b (kOf (n + 1) b) at a3
  change kOf (n + 1) b < _ → ¬ tells (n + 1) b (kOf (n + 1) b + 1) at a4
  rcases Nat.lt_trichotomy (kOf (n + 1) b) k with c | c | c
  · exact absurd (tells_down (k := kOf (n + 1) b + 1) (k - (kOf (n + 1) b + 1)) (by rw [show kOf (n + 1) b + 1 + (k - (kOf (n + 1) b + 1)) = k by omega]; exact h1 (by omega))) (a4 (by omega))
  · exact c
  · exact absurd (tells_down (k := k + 1) (kOf (n + 1) b - (k + 1)) (by rw [show k + 1 + (kOf (n + 1) b - (k + 1)) = kOf (n + 1) b by omega]; exact a3 (by omega))) (h2 (by omega))
section
variable {N : Nat}
theorem pulses_loop {n : Nat} {b : Int} (n1 : n + 1 ≤ 16) (hN : 3000 ≤ N) : ∀ (nn lo hi : Nat), lo ≤ hi → hi ≤ (mostT (n + 1 : Nat)).toNat → (0 < lo → tells (n + 1) b lo) → (hi < (mostT (n + 1 : Nat)).toNat → ¬ tells (n + 1) b (hi + 1)) → hi - lo < nn →
    Rc.apulses.loop2 N nn (n + 1 : Nat) b lo hi = some (kOf (n + 1) b : Int)
  | 0, _, _, _, _, _, _, h => by omega
  | nn + 1, lo, hi, h0, h1, h2, h3, h => by
    have hm := mostT_range (n + 1 : Nat)
    unfold Rc.apulses.loop2
    simp only [br_dec, chkI_same]
    by_cases c : lo < hi
    · have hmid : IntKind.i64.wrap ((IntKind.i64.wrap (IntKind.i64.wrap ((lo : Int) + hi) + 1)).tdiv 2) = (((lo + hi + 1) / 2 : Nat) : Int) := by
        rw [i64 (x := (lo : Int) + hi) (by omega) (by omega), i64 (x := (lo : Int) + hi + 1) (by omega) (by omega), tdiv_ediv (by omega), i64 (by omega) (by omega)]
        omega
      obtain ⟨m, hmm⟩ : ∃ m, (lo + hi + 1) / 2 = m + 1 := ⟨(lo + hi + 1) / 2 - 1, by omega⟩
      rw [hmm] at hmid
      have hA : cntA (n + 1 : Nat) ((m + 1 : Nat) : Int) = cnt (n + 1) (m + 1) := by
        unfold cntA
        rw [if_pos (by omega), Int.toNat_natCast, Int.toNat_natCast]
      have hs := cnt_small (n + 1) (m + 1)
      have hp := cnt_pos n (m + 1)
      have hl : Rc.flen.F N (cnt (n + 1) (m + 1) - 1) = some (bl (cnt (n + 1) (m + 1) - 1)) := by
        unfold Rc.flen.F
        simp only [br_dec]
        by_cases d : cnt (n + 1) (m + 1) - 1 ≤ 0
        · rw [if_pos d, bl_zero d]
        · rw [if_neg d, u64 (by omega) (by omega), len64_F (by omega) (by omega), obind_of]
      rw [if_pos (by omega), hmid, pcount_F _ _ hN, obind_of, hA, i64 (by omega) (by omega), hl, obind_of]
      by_cases d : bl (cnt (n + 1) (m + 1) - 1) ≤ b
      · rw [if_pos d]
        exact pulses_loop n1 hN nn (m + 1) hi (by omega) h1 (fun _ => d) h3 (by omega)
      · rw [if_neg d, i64 (by omega) (by omega), show ((m + 1 : Nat) : Int) - 1 = (m : Int) by omega]
        exact pulses_loop n1 hN nn lo m (by omega) (by omega) h2 (fun _ => d) (by omega)
    · rw [if_neg (by omega)]
      rw [kOf_eq (k := lo) (by omega) h2 (fun hh => by have := h3 (by omega); rwa [show hi = lo by omega] at this)]
theorem apulses_F {n : Nat} {b : Int} (n0 : 1 ≤ n) (n1 : n ≤ 16) (hN : 3000 ≤ N) : Rc.apulses.F N n b = some (kOf n b : Int) := by
  obtain ⟨m, rfl⟩ : ∃ m, n = m + 1 := ⟨n - 1, by omega⟩
  have hm := mostT_range (m + 1 : Nat)
  unfold Rc.apulses.F
  have h := pulses_loop (N := N) (b := b) n1 hN N 0 (mostT (m + 1 : Nat)).toNat (by omega) (by omega) (fun h => by omega) (fun h => by omega) (by omega)
  rw [show (((mostT (m + 1 : Nat)).toNat : Nat) : Int) = mostT (m + 1 : Nat) by omega, show ((0 : Nat) : Int) = 0 from rfl] at h
  rw [pmost_F _ hN, obind_of, h, obind_of]
end
end Go.Pl
/-
  Layer 17: what is written is read; any bytes are read by both in one way.
  Conditions: none.
-/
namespace Go.Pl
open Go.Eng Go.Proofs
set_option maxRecDepth 100000
theorem un_same17 {e : E} {v ft : Int} : (ft ≤ 256 → (e.un v ft).r = e.r ∧ (e.un v ft).raw = e.raw) ∧ e.k ≤ (e.un v ft).k ∧ (e.un v ft).k ≤ e.k + 4 ∧ e.r ≤ (e.un v ft).r ∧ (256 < ft → (e.un v ft).r = e.r + ub ft) := by
  unfold E.un
  split
  · exact ⟨fun _ => ⟨rfl, rfl⟩, by omega, by omega, by omega, fun h => by omega⟩
  · split
    · have := E.tk_same e v (v + 1) ft
      exact ⟨fun _ => ⟨this.1, this.2.1⟩, by omega, by omega, by omega, fun h => by omega⟩
    · have := E.tk_same e (v / 2 ^ ub ft) (v / 2 ^ ub ft + 1) (uf ft)
      simp only [E.bt]
      exact ⟨fun h => by omega, by omega, by omega, by omega, fun h => by omega⟩
section
variable {N : Nat}
end
end Go.Pl
/-
  Layer 20: a band is read by both books alike; one without bits is quiet noise.
  Conditions: none.
-/
namespace Go.Pl
open Go.Eng Go.Proofs
set_option maxRecDepth 100000
theorem vec_fill {n k : Nat} {v : Int} {e : Int} (n0 : 1 ≤ n) (n1 : n ≤ 16) (hk : k ≤ 64) (hkm : (k : Int) ≤ mostT n) (v0 : 0 ≤ v) (v1 : v < cnt n k) : FillOk (vec n k v) (sz (cl e)) := by
  obtain ⟨h1, h2, _⟩ := vec_spec n k v v0 v1 (un_most n0 n1 hkm)
  have h3 := (sz1_small (vec n k v) (by omega)).2
  have hc := cl_range e
  have hs := sz_range hc.1 hc.2
  exact ⟨by omega, by omega, hs.1, hs.2, (ok64_iff _).2 fun x hx => by have := h3 x hx; omega⟩
def hv (e : Int) : Int := (cz (sz (cl e)) + 1) / 2
theorem hn_nat {m : Nat} (h0 : 1 ≤ m) (h1 : m ≤ 16) : hn (m : Int) = m := by
  unfold hn
  rw [if_neg (by omega), if_neg (by omega), Int.toNat_natCast]
section
variable {N : Nat} {b : List Int}
theorem filled_some {y : List Int} {m e s : Int} (h : FillOk y (sz (cl e))) (hN : 1000 ≤ N) : Rc.filled.F N m e s y = some (s, fillV (sz (cl e)) y) := by
  unfold Rc.filled.F
  obtain ⟨k, hk⟩ : ∃ k, y.length = k + 1 := ⟨y.length - 1, by have := h.1; omega⟩
  rw [hk]
  show (obind (Rc.esize.F N e) fun r2 => (obind (Rc.sfill.F N r2 y) fun r3 => some (s, r3.snd))) = _
  rw [esize_F hN, obind_of, sfill_F (by omega) h, obind_of]
theorem filledN_F {m : Nat} {e s : Int} (m0 : 1 ≤ m) (m1 : m ≤ 16) (hN : 3000 ≤ N) : Rc.filledN.F N m e s = some ((hsh (hv e) m s).2, (hsh (hv e) m s).1) := by
  unfold Rc.filledN.F
  rw [esize_F (by omega), obind_of, shush_F (by omega), obind_of, hn_nat m0 m1]
  rfl
end
section
variable {N : Nat} {b : List Int}
theorem pcs_get {n : Int} {i : Nat} (h : i < pN n) : (pcs n).getD i 0 = pcv n i := by
  have := seqL_get (pcv n) (pN n) 0 i h
  rwa [Nat.zero_add] at this
theorem spl_get {n bb : Int} {i : Nat} (h : i < pN n) : (spl n bb).getD i 0 = spv n bb i := by
  have := seqL_get (spv n bb) (pN n) 0 i h
  rwa [Nat.zero_add] at this
theorem pcs_len (n : Int) : (pcs n).length = pN n := seqL_len _ _ _
theorem spl_len (n bb : Int) : (spl n bb).length = pN n := seqL_len _ _ _
end
end Go.Pl
/-
  Layer 20: a band without bits is quiet noise.
  Conditions: none.
-/
namespace Go.Pl
open Go.Eng Go.Proofs
set_option maxRecDepth 100000
theorem pc_start {n : Int} (i : Nat) : pcv n i + (i : Int) * n / pN n = ((i + 1 : Nat) : Int) * n / pN n := by
  unfold pcv
  rw [show ((i + 1 : Nat) : Int) = (i : Int) + 1 by omega]
  omega
theorem pc_end {n : Int} (h0 : 1 ≤ n) (h1 : n ≤ 1000) : (pN n : Int) * n / pN n = n := by
  obtain ⟨p0, _, _⟩ := pN_range h0 h1
  rw [Int.mul_ediv_cancel_left _ (by omega)]
section
variable {N : Nat} {b : List Int}
end
end Go.Pl
/-
  Layer 17: the vector that is near: by the program and its twin; the statements PvqNear, PvqExact.
  Conditions: none.
-/
namespace Go.Pl
open Go.Eng Go.Proofs
set_option maxRecDepth 100000
def c24 (v : Int) : Int := if v < -16777216 then -16777216 else if v > 16777216 then 16777216 else v
def mg (v : Int) : Int := ((c24 v).natAbs : Int)
theorem c24_range (v : Int) : -16777216 ≤ c24 v ∧ c24 v ≤ 16777216 := by
  unfold c24
  split
  · omega
  · split <;> omega
theorem mg_range (v : Int) : 0 ≤ mg v ∧ mg v ≤ 16777216 := by have := c24_range v; unfold mg; omega
def sumL : List Int → Int
  | [] => 0
  | x :: r => x + sumL r
def NN (l : List Int) : Prop := ∀ i, 0 ≤ l.getD i 0
theorem NN.tail {x : Int} {l : List Int} (h : NN (x :: l)) : 0 ≤ x ∧ NN l := ⟨by simpa using h 0, fun i => by simpa using h (i + 1)⟩
theorem NN.cons {x : Int} {l : List Int} (h0 : 0 ≤ x) (h : NN l) : NN (x :: l) := fun i => by
  cases i with
  | zero => simpa using h0
  | succ i => simpa using h i
theorem NN.nil : NN [] := fun i => by simp
theorem NN.le : ∀ {l : List Int}, NN l → 0 ≤ sumL l ∧ ∀ i, l.getD i 0 ≤ sumL l
  | [], _ => ⟨Int.le_refl _, fun i => by simp [sumL]⟩
  | x :: l, h => by
    obtain ⟨h0, h1⟩ := h.tail
    obtain ⟨h2, h3⟩ := NN.le h1
    refine ⟨by simp only [sumL]; omega, fun i => ?_⟩
    cases i with
    | zero => simp only [sumL, List.getD_cons_zero]; omega
    | succ i => have := h3 i; simp only [sumL, List.getD_cons_succ]; omega
theorem sum_inc : ∀ (l : List Int) (i : Nat) , i < l.length → sumL (l.set i (l.getD i 0 + 1)) = sumL l + 1
  | [], i, h => by simp at h
  | x :: l, 0, _ => by simp only [List.set_cons_zero, List.getD_cons_zero, sumL]; omega
  | x :: l, i + 1, h => by
    have := sum_inc l i (by simpa using h)
    simp only [List.set_cons_succ, List.getD_cons_succ, sumL]; omega
def scN (Z Y : List Int) (k S : Int) (i : Nat) : Int := Z.getD i 0 * k - S * Y.getD i 0
def bst (Z Y : List Int) (k S : Int) : Nat → Nat → Nat → Nat
  | 0, b, _ => b
  | d + 1, b, i => bst Z Y k S d (if scN Z Y k S i > scN Z Y k S b then i else b) (i + 1)
theorem bst_lt (Z Y : List Int) (k S : Int) : ∀ (d b i : Nat), b < i + d → bst Z Y k S d b i < i + d
  | 0, b, i, h => h
  | d + 1, b, i, h => by
    simp only [bst]
    have := bst_lt Z Y k S d (if scN Z Y k S i > scN Z Y k S b then i else b) (i + 1) (by split <;> omega)
    omega
def topN (Z Y : List Int) (k S : Int) (n : Nat) : Nat := bst Z Y k S (n - 1) 0 1
def growN (Z : List Int) (k S : Int) (n : Nat) : Nat → List Int → List Int
  | 0, Y => Y
  | l + 1, Y => growN Z k S n l (Y.set (topN Z Y k S n) (Y.getD (topN Z Y k S n) 0 + 1))
theorem grow_facts (Z : List Int) (k S : Int) {n : Nat} (hn : 1 ≤ n) : ∀ (l : Nat) (Y : List Int), Y.length = n → NN Y → (growN Z k S n l Y).length = n ∧ NN (growN Z k S n l Y) ∧ sumL (growN Z k S n l Y) = sumL Y + l
  | 0, Y, h, hY => ⟨h, hY, by simp [growN]⟩
  | l + 1, Y, h, hY => by
    have ht : topN Z Y k S n < n := by have := bst_lt Z Y k S (n - 1) 0 1 (by omega); unfold topN; omega
    obtain ⟨g1, g2, g3⟩ := grow_facts Z k S hn l (Y.set (topN Z Y k S n) (Y.getD (topN Z Y k S n) 0 + 1)) (by rw [List.length_set]; exact h) (fun i => by
      rw [getD_set]
      have := hY (topN Z Y k S n)
      have := hY i
      split <;> omega)
    rw [sum_inc _ _ (by omega)] at g3
    exact ⟨g1, g2, by simp only [growN]; omega⟩
def sg (x y : Int) : Int := if x < 0 then -y else y
def nearL (x : List Int) (k : Int) : List Int :=
  if sumL (x.map mg) = 0 then (List.replicate x.length 0).set 0 k
  else List.zipWith sg x (growN (x.map mg) k (sumL (x.map mg)) x.length (k - sumL ((x.map mg).map fun z => k * z / sumL (x.map mg))).toNat ((x.map mg).map fun z => k * z / sumL (x.map mg)))
theorem floors {k S : Int} (hk : 0 ≤ k) (hS : 0 < S) : ∀ Z : List Int, NN Z → NN (Z.map fun z => k * z / S) ∧ S * sumL (Z.map fun z => k * z / S) ≤ k * sumL Z
  | [], _ => ⟨NN.nil, by simp [sumL]⟩
  | z :: Z, h => by
    obtain ⟨h0, h1⟩ := h.tail
    obtain ⟨i1, i2⟩ := floors hk hS Z h1
    have a0 : 0 ≤ k * z := Int.mul_nonneg hk h0
    have a1 := Int.ediv_nonneg a0 (show 0 ≤ S by omega)
    have a2 := Int.mul_ediv_self_le (x := k * z) (k := S) (by omega)
    refine ⟨NN.cons a1 i1, ?_⟩
    simp only [List.map_cons, sumL, Int.mul_add]
    omega
theorem nn_map_mg : ∀ x : List Int, NN (x.map mg)
  | [] => NN.nil
  | v :: x => NN.cons (mg_range v).1 (nn_map_mg x)
theorem get_map_mg (x : List Int) (i : Nat) : 0 ≤ (x.map mg).getD i 0 ∧ (x.map mg).getD i 0 ≤ 16777216 := by
  rw [List.getD_eq_getElem?_getD, List.getElem?_map]
  cases x[i]? with
  | none => simp
  | some v => exact mg_range v
theorem sum_map_mg : ∀ x : List Int, 0 ≤ sumL (x.map mg) ∧ sumL (x.map mg) ≤ 16777216 * x.length
  | [] => by simp [sumL]
  | v :: x => by have := sum_map_mg x; have := mg_range v; simp only [List.map_cons, sumL, List.length_cons]; omega
section
variable {N : Nat}
theorem pn_sizes {x : List Int} (hl : x.length ≤ 16) : ∀ (nn : Nat) (r pre A : List Int) (s : Int), x = pre ++ r → A.length = pre.length → r.length < nn → (True → 0 ≤ s ∧ s ≤ 16777216 * (pre.length : Int)) →
    Rc.pnear.loop6 N nn x.length x s pre.length (A ++ List.replicate r.length 0) = some (s + sumL (r.map mg), A ++ r.map mg)
  | 0, r, pre, A, s, _, _, h, _ => by omega
  | nn + 1, r, pre, A, s, hx, hA, h, hs => by
    obtain ⟨s0, s1⟩ := hs trivial
    unfold Rc.pnear.loop6
    simp only [br_dec, chkL_same, chkI_same]
    have hlen : x.length = pre.length + r.length := by rw [hx, List.length_append]
    cases r with
    | nil => rw [if_neg (by simp at hlen; omega)]; simp [sumL]
    | cons v r =>
      simp only [List.length_cons] at hlen h
      have hm := mg_range v
      have hc := c24_range v
      have hg : x.getD pre.length 0 = v := by rw [hx, get_at]
      have hcl : Rc.clamp.F N v (-16777216) 16777216 = some (c24 v) := by
        unfold Rc.clamp.F c24
        simp only [br_dec]
        by_cases c1 : v < -16777216
        · rw [if_neg (by omega), if_pos c1, if_pos c1]
        by_cases c2 : v > 16777216
        · rw [if_neg (by omega), if_neg c1, if_pos c2, if_neg c1, if_pos c2]
        · rw [if_neg (by omega), if_neg c1, if_neg c2, if_neg c1, if_neg c2]
      have hv : (if 0 - c24 v > c24 v then 0 - c24 v else c24 v) = mg v := by unfold mg; split <;> omega
      have ll : (A ++ (0 : Int) :: List.replicate r.length 0).length = x.length := by simp; omega
      have st := set_at A 0 (mg v) (List.replicate r.length 0)
      rw [hA] at st
      have gt := get_at A (mg v) (List.replicate r.length 0)
      rw [hA] at gt
      rw [if_pos (by omega), chk_pos (by omega), Int.toNat_natCast, hg, hcl, obind_of, i64 (x := 0 - c24 v) (by omega) (by omega), show List.replicate (v :: r).length (0 : Int) = 0 :: List.replicate r.length 0 from rfl, hv, chk_pos (by omega), st, chk_pos (by simp; omega), gt, i64 (x := s + mg v) (by omega) (by omega), i64 (x := (pre.length : Int) + 1) (by omega) (by omega)]
      have ih := pn_sizes hl nn r (pre ++ [v]) (A ++ [mg v]) (s + mg v) (by rw [hx]; simp) (by simp [hA]) (by omega) (fun _ => ⟨by omega, by simp; omega⟩)
      rw [show (((pre ++ [v]).length : Nat) : Int) = (pre.length : Int) + 1 by simp, List.append_assoc, List.append_assoc] at ih
      refine ih.trans ?_
      simp only [List.map_cons, sumL]
      rw [show s + mg v + sumL (r.map mg) = s + (mg v + sumL (r.map mg)) by omega]
      rfl
theorem pn_floors {Z : List Int} {k S : Int} (hl : Z.length ≤ 16) (hk : 0 ≤ k) (hk2 : k ≤ 64) (hS : 1 ≤ S) (hZ : ∀ i, 0 ≤ Z.getD i 0 ∧ Z.getD i 0 ≤ 16777216) : ∀ (nn : Nat) (r pre A : List Int) (s : Int), Z = pre ++ r → A.length = pre.length → r.length < nn → (True → s ≤ 64 ∧ -(1073741824 * (pre.length : Int)) ≤ s) →
    Rc.pnear.loop17 N nn k S Z.length Z s pre.length (A ++ List.replicate r.length 0) = some (s - sumL (r.map fun z => k * z / S), A ++ r.map fun z => k * z / S)
  | 0, r, pre, A, s, _, _, h, _ => by omega
  | nn + 1, r, pre, A, s, hx, hA, h, hs => by
    obtain ⟨s0, s1⟩ := hs trivial
    unfold Rc.pnear.loop17
    simp only [br_dec, chkL_same, chkI_same]
    have hlen : Z.length = pre.length + r.length := by rw [hx, List.length_append]
    cases r with
    | nil => rw [if_neg (by simp at hlen; omega)]; simp [sumL]
    | cons v r =>
      simp only [List.length_cons] at hlen h
      have hg : Z.getD pre.length 0 = v := by rw [hx, get_at]
      have hv := hZ pre.length
      rw [hg] at hv
      have p0 : 0 ≤ k * v := Int.mul_nonneg hk hv.1
      have p1 : k * v ≤ 64 * 16777216 := Int.mul_le_mul hk2 hv.2 hv.1 (by omega)
      have d0 := Int.ediv_nonneg p0 (show 0 ≤ S by omega)
      have d1 := Int.ediv_le_self S p0
      have st := set_at A 0 (k * v / S) (List.replicate r.length 0)
      rw [hA] at st
      have gt := get_at A (k * v / S) (List.replicate r.length 0)
      rw [hA] at gt
      have ll : (A ++ (0 : Int) :: List.replicate r.length 0).length = Z.length := by simp; omega
      rw [if_pos (by omega), chk_pos (by omega), chk_pos (by omega), show List.replicate (v :: r).length (0 : Int) = 0 :: List.replicate r.length 0 from rfl, chk_pos (by omega), Int.toNat_natCast, hg, i64 (x := k * v) (by omega) (by omega), tdiv_ediv p0, i64 (x := k * v / S) (by omega) (by omega), st, chk_pos (by simp; omega), gt, i64 (x := s - k * v / S) (by omega) (by omega), i64 (x := (pre.length : Int) + 1) (by omega) (by omega)]
      have ih := pn_floors hl hk hk2 hS hZ nn r (pre ++ [v]) (A ++ [k * v / S]) (s - k * v / S) (by rw [hx]; simp) (by simp [hA]) (by omega) (fun _ => ⟨by omega, by simp; omega⟩)
      rw [show (((pre ++ [v]).length : Nat) : Int) = (pre.length : Int) + 1 by simp, List.append_assoc, List.append_assoc] at ih
      refine ih.trans ?_
      simp only [List.map_cons, sumL]
      rw [show s - k * v / S - sumL (r.map fun z => k * z / S) = s - (k * v / S + sumL (r.map fun z => k * z / S)) by omega]
      rfl
theorem sc_range {Z Y : List Int} {k S : Int} (hZ : ∀ i, 0 ≤ Z.getD i 0 ∧ Z.getD i 0 ≤ 16777216) (hY : ∀ i, 0 ≤ Y.getD i 0 ∧ Y.getD i 0 ≤ 64) (hk : 0 ≤ k) (hk2 : k ≤ 64) (hS : 1 ≤ S) (hS2 : S ≤ 268435456) (i : Nat) :
    0 ≤ Z.getD i 0 * k ∧ Z.getD i 0 * k ≤ 1073741824 ∧ 0 ≤ S * Y.getD i 0 ∧ S * Y.getD i 0 ≤ 17179869184 := by
  have a := hZ i
  have b := hY i
  have h1 : Z.getD i 0 * k ≤ 16777216 * 64 := Int.mul_le_mul a.2 hk2 hk (by omega)
  have h2 : S * Y.getD i 0 ≤ 268435456 * 64 := Int.mul_le_mul hS2 b.2 b.1 (by omega)
  exact ⟨Int.mul_nonneg a.1 hk, by omega, Int.mul_nonneg (by omega) b.1, by omega⟩
theorem pn_best {Z Y : List Int} {k S : Int} (hl : Z.length ≤ 16) (hYl : Y.length = Z.length) (hZ : ∀ i, 0 ≤ Z.getD i 0 ∧ Z.getD i 0 ≤ 16777216) (hY : ∀ i, 0 ≤ Y.getD i 0 ∧ Y.getD i 0 ≤ 64) (hk : 0 ≤ k) (hk2 : k ≤ 64) (hS : 1 ≤ S) (hS2 : S ≤ 268435456) : ∀ (nn d b i : Nat), i + d = Z.length → b < Z.length → d < nn →
    Rc.pnear.loop26 N nn k S Z.length Z Y b i = some ((bst Z Y k S d b i : Nat) : Int)
  | 0, d, b, i, _, _, h => by omega
  | nn + 1, d, b, i, hd, hb, h => by
    unfold Rc.pnear.loop26
    simp only [br_dec, chkL_same, chkI_same]
    rcases d with _ | d
    · rw [if_neg (by omega)]; rfl
    · obtain ⟨a1, a2, a3, a4⟩ := sc_range hZ hY hk hk2 hS hS2 i
      obtain ⟨b1, b2, b3, b4⟩ := sc_range hZ hY hk hk2 hS hS2 b
      rw [if_pos (by omega), chk_pos (by omega), chk_pos (by omega), chk_pos (by omega), chk_pos (by omega), Int.toNat_natCast, Int.toNat_natCast]
      rw [i64 (x := Z.getD i 0 * k) (by omega) (by omega), i64 (x := S * Y.getD i 0) (by omega) (by omega), i64 (x := Z.getD i 0 * k - S * Y.getD i 0) (by omega) (by omega), i64 (x := Z.getD b 0 * k) (by omega) (by omega), i64 (x := S * Y.getD b 0) (by omega) (by omega), i64 (x := Z.getD b 0 * k - S * Y.getD b 0) (by omega) (by omega), i64 (x := (i : Int) + 1) (by omega) (by omega)]
      simp only [bst]
      by_cases c : Z.getD i 0 * k - S * Y.getD i 0 > Z.getD b 0 * k - S * Y.getD b 0
      · rw [if_pos c, if_pos (show scN Z Y k S i > scN Z Y k S b from c)]
        exact pn_best hl hYl hZ hY hk hk2 hS hS2 nn d i (i + 1) (by omega) (by omega) (by omega)
      · rw [if_neg c, if_neg (show ¬ scN Z Y k S i > scN Z Y k S b from c)]
        exact pn_best hl hYl hZ hY hk hk2 hS hS2 nn d b (i + 1) (by omega) hb (by omega)
theorem bst_from0 (Z Y : List Int) (k S : Int) {n : Nat} (h : 1 ≤ n) : bst Z Y k S n 0 0 = topN Z Y k S n := by
  obtain ⟨m, rfl⟩ : ∃ m, n = m + 1 := ⟨n - 1, by omega⟩
  unfold topN
  simp only [bst, Nat.add_sub_cancel]
  rw [if_neg (by omega)]
theorem pn_grow {Z : List Int} {k S : Int} (hl : Z.length ≤ 16) (hl1 : 1 ≤ Z.length) (hZ : ∀ i, 0 ≤ Z.getD i 0 ∧ Z.getD i 0 ≤ 16777216) (hk : 0 ≤ k) (hk2 : k ≤ 64) (hS : 1 ≤ S) (hS2 : S ≤ 268435456) (hN : 100 ≤ N) : ∀ (nn l : Nat) (Y : List Int), Y.length = Z.length → NN Y → sumL Y + l = k → l < nn →
    Rc.pnear.loop22 N nn k S Z l Y = some (0, growN Z k S Z.length l Y)
  | 0, l, Y, _, _, _, h => by omega
  | nn + 1, l, Y, hYl, hY, hs, h => by
    unfold Rc.pnear.loop22
    simp only [br_dec, chkL_same, chkI_same]
    rcases l with _ | l
    · rw [if_neg (by omega)]; rfl
    · obtain ⟨y0, y1⟩ := hY.le
      have hYr : ∀ i, 0 ≤ Y.getD i 0 ∧ Y.getD i 0 ≤ 64 := fun i => ⟨hY i, by have := y1 i; omega⟩
      have hb := pn_best (N := N) hl hYl hZ hYr hk hk2 hS hS2 N Z.length 0 0 (by omega) (by omega) (by omega)
      rw [bst_from0 _ _ _ _ hl1, show ((0 : Nat) : Int) = 0 from rfl] at hb
      have ht : topN Z Y k S Z.length < Z.length := by have := bst_lt Z Y k S (Z.length - 1) 0 1 (by omega); unfold topN; omega
      have hyt := hYr (topN Z Y k S Z.length)
      have hc : (0 : Int) ≤ ((topN Z Y k S Z.length : Nat) : Int) ∧ ((topN Z Y k S Z.length : Nat) : Int) < (Y.length : Int) := by omega
      rw [if_pos (by omega), hb, obind_of, chk_pos hc, chk_pos hc, Int.toNat_natCast, i64 (x := Y.getD (topN Z Y k S Z.length) 0 + 1) (by omega) (by omega), i64 (x := ((l + 1 : Nat) : Int) - 1) (by omega) (by omega), show ((l + 1 : Nat) : Int) - 1 = (l : Int) by omega]
      have g := sum_inc Y (topN Z Y k S Z.length) (by omega)
      exact pn_grow hl hl1 hZ hk hk2 hS hS2 hN nn l _ (by rw [List.length_set]; exact hYl) (fun i => by
        rw [getD_set]
        have := hY i
        split <;> omega) (by omega) (by omega)
theorem pn_signs {x : List Int} (hl : x.length ≤ 16) : ∀ (nn : Nat) (r pre A B : List Int), x = pre ++ r → A.length = pre.length → B.length = r.length → (∀ i, 0 ≤ B.getD i 0 ∧ B.getD i 0 ≤ 64) → r.length < nn →
    Rc.pnear.loop33 N nn x.length x pre.length (A ++ B) = some (A ++ List.zipWith sg r B)
  | 0, r, pre, A, B, _, _, _, _, h => by omega
  | nn + 1, r, pre, A, B, hx, hA, hB, hBr, h => by
    unfold Rc.pnear.loop33
    simp only [br_dec, chkL_same, chkI_same]
    have hlen : x.length = pre.length + r.length := by rw [hx, List.length_append]
    cases r with
    | nil =>
      rw [if_neg (by simp at hlen; omega)]
      have : B = [] := List.length_eq_zero_iff.1 (by simpa using hB)
      rw [this]; simp
    | cons v r =>
      cases B with
      | nil => simp at hB
      | cons y B =>
        simp only [List.length_cons] at hlen h hB
        have hg : x.getD pre.length 0 = v := by rw [hx, get_at]
        have hy := hBr 0
        simp only [List.getD_cons_zero] at hy
        have hBr' : ∀ i, 0 ≤ B.getD i 0 ∧ B.getD i 0 ≤ 64 := fun i => by simpa using hBr (i + 1)
        have ll : (A ++ y :: B).length = x.length := by simp; omega
        have gt := get_at A y B
        rw [hA] at gt
        have st := set_at A y (-y) B
        rw [hA] at st
        rw [if_pos (by omega), chk_pos (by omega), Int.toNat_natCast, hg, i64 (x := (pre.length : Int) + 1) (by omega) (by omega)]
        have next : ∀ u : Int, Rc.pnear.loop33 N nn x.length x ((pre.length : Int) + 1) (A ++ u :: B) = some (A ++ u :: List.zipWith sg r B) := fun u => by
          have ih := pn_signs hl nn r (pre ++ [v]) (A ++ [u]) B (by rw [hx]; simp) (by simp [hA]) (by omega) hBr' (by omega)
          rw [show (((pre ++ [v]).length : Nat) : Int) = (pre.length : Int) + 1 by simp, List.append_assoc, List.append_assoc] at ih
          exact ih
        by_cases c : v < 0
        · rw [if_pos c, chk_pos (by omega), chk_pos (by omega), gt, i64 (x := 0 - y) (by omega) (by omega), show 0 - y = -y by omega, st, next]
          simp [sg, c]
        · rw [if_neg c, next]
          simp [sg, c]
theorem near_facts {x : List Int} (h1 : 1 ≤ x.length) {k : Int} (hk : 0 ≤ k) (hS : sumL (x.map mg) ≠ 0) :
    0 ≤ k - sumL ((x.map mg).map fun z => k * z / sumL (x.map mg)) ∧ NN ((x.map mg).map fun z => k * z / sumL (x.map mg)) := by
  obtain ⟨s0, _⟩ := sum_map_mg x
  obtain ⟨f1, f2⟩ := floors hk (show 0 < sumL (x.map mg) by omega) (x.map mg) (nn_map_mg x)
  rw [Int.mul_comm k] at f2
  have := Int.le_of_mul_le_mul_left f2 (show 0 < sumL (x.map mg) by omega)
  exact ⟨by omega, f1⟩
theorem pnear_F (x : List Int) (k : Int) (hN : 3000 ≤ N) : Rc.pnear.F N k x = some (if 1 ≤ x.length ∧ x.length ≤ 16 ∧ 0 ≤ k ∧ k ≤ mostT x.length then (0, nearL x k) else (1, [])) := by
  unfold Rc.pnear.F
  rw [pmay_F, obind_of]
  simp only [br_not_dec, br_dec, br_beq]
  by_cases c1 : ¬ (1 ≤ (x.length : Int) ∧ (x.length : Int) ≤ 16)
  · rw [if_neg c1, if_neg (fun h => by omega)]
  have c1 : 1 ≤ (x.length : Int) ∧ (x.length : Int) ≤ 16 := by omega
  by_cases c2 : k < 0
  · rw [if_pos c1, if_pos c2, if_neg (fun h => by omega)]
  rw [if_pos c1, if_neg c2, pmost_F _ hN, obind_of]
  by_cases c3 : k > mostT x.length
  · rw [if_pos c3, if_neg (fun h => by omega)]
  have hm := mostT_range x.length
  have h6 := pn_sizes (N := N) (x := x) (by omega) N x [] [] 0 rfl rfl (by omega) (fun _ => ⟨by omega, by simp⟩)
  rw [show (([] : List Int).length : Int) = 0 from rfl, Int.zero_add, List.nil_append, List.nil_append] at h6
  obtain ⟨s0, s1⟩ := sum_map_mg x
  rw [if_neg c3, if_pos ⟨by omega, by omega, by omega, by omega⟩, chk_pos (by omega), chk_pos (by omega), Int.toNat_natCast, h6, obind_of]
  simp only
  by_cases c4 : sumL (x.map mg) = 0
  · rw [if_pos c4, chk_pos (by rw [List.length_replicate]; omega)]
    unfold nearL
    rw [if_pos c4]
    rfl
  obtain ⟨n0, n1⟩ := near_facts (x := x) (by omega) (k := k) (by omega) c4
  have ml : (x.map mg).length = x.length := by simp
  have h17 := pn_floors (N := N) (Z := x.map mg) (k := k) (S := sumL (x.map mg)) (by omega) (by omega) (by omega) (by omega) (get_map_mg x) N (x.map mg) [] [] k rfl rfl (by omega) (fun _ => ⟨by omega, by simp; omega⟩)
  rw [show (([] : List Int).length : Int) = 0 from rfl, List.nil_append, List.nil_append, ml] at h17
  rw [if_neg c4, ml, h17, obind_of]
  simp only
  have h22 := pn_grow (N := N) (Z := x.map mg) (k := k) (S := sumL (x.map mg)) (by omega) (by omega) (get_map_mg x) (by omega) (by omega) (by omega) (by omega) (by omega) N (k - sumL ((x.map mg).map fun z => k * z / sumL (x.map mg))).toNat _ (by simp) n1 (by omega) (by have := n1.le.1; omega)
  rw [show (((k - sumL ((x.map mg).map fun z => k * z / sumL (x.map mg))).toNat : Nat) : Int) = k - sumL ((x.map mg).map fun z => k * z / sumL (x.map mg)) by omega, ml] at h22
  rw [h22, obind_of]
  simp only
  obtain ⟨g1, g2, g3⟩ := grow_facts (x.map mg) k (sumL (x.map mg)) (n := x.length) (by omega) (k - sumL ((x.map mg).map fun z => k * z / sumL (x.map mg))).toNat ((x.map mg).map fun z => k * z / sumL (x.map mg)) (by simp) n1
  have h33 := pn_signs (N := N) (x := x) (by omega) N x [] [] _ rfl rfl g1 (fun i => ⟨g2 i, by have := g2.le.2 i; omega⟩) (by omega)
  rw [show (([] : List Int).length : Int) = 0 from rfl, List.nil_append, List.nil_append] at h33
  rw [h33, obind_of]
  unfold nearL
  rw [if_neg c4]
end
end Go.Pl
/-
  Layer 17: the plain twin's vector that is near is the program's; it has just so many pulses, and no sign turned: the statement PvqNear.
  Conditions: none.
-/
namespace Go.Pl
open Go.Eng Go.Proofs
set_option maxRecDepth 100000
section
variable {N : Nat}
theorem sz1_zip : ∀ (x B : List Int), x.length = B.length → NN B → ((sz1 (List.zipWith sg x B) : Nat) : Int) = sumL B
  | [], [], _, _ => rfl
  | [], _ :: _, h, _ => by simp at h
  | _ :: _, [], h, _ => by simp at h
  | v :: x, y :: B, h, hB => by
    obtain ⟨b0, b1⟩ := hB.tail
    have ih := sz1_zip x B (by simpa using h) b1
    simp only [List.zipWith_cons_cons, sumL, sz1_cons, Int.natCast_add]
    rw [ih]
    unfold sg
    split <;> omega
theorem zip_sign : ∀ (x B : List Int), x.length = B.length → NN B → ∀ i, ((List.zipWith sg x B).getD i 0 > 0 → ¬ x.getD i 0 < 0) ∧ ((List.zipWith sg x B).getD i 0 < 0 → x.getD i 0 < 0)
  | [], [], _, _, i => by simp
  | [], _ :: _, h, _, _ => by simp at h
  | _ :: _, [], h, _, _ => by simp at h
  | v :: x, y :: B, h, hB, i => by
    obtain ⟨b0, b1⟩ := hB.tail
    cases i with
    | zero =>
      simp only [List.zipWith_cons_cons, List.getD_cons_zero]
      unfold sg
      split <;> omega
    | succ i =>
      have := zip_sign x B (by simpa using h) b1 i
      simpa using this
theorem near_spec {x : List Int} {k : Int} (h1 : 1 ≤ x.length) (hk : 0 ≤ k) : (nearL x k).length = x.length ∧ ((sz1 (nearL x k) : Nat) : Int) = k ∧ ∀ i, ((nearL x k).getD i 0 > 0 → ¬ x.getD i 0 < 0) ∧ ((nearL x k).getD i 0 < 0 → x.getD i 0 < 0) := by
  unfold nearL
  by_cases c : sumL (x.map mg) = 0
  · rw [if_pos c]
    cases x with
    | nil => simp at h1
    | cons v x =>
      have hm := mg_range v
      have hs := sum_map_mg x
      simp only [List.map_cons, sumL] at c
      have hv : v = 0 := by
        have : mg v = 0 := by omega
        unfold mg c24 at this
        split at this
        · omega
        · split at this <;> omega
      have hz := sz1_zeros x.length
      simp only [List.length_cons, List.replicate_succ, List.set_cons_zero]
      refine ⟨by simp, by rw [sz1_cons, hz]; omega, fun i => ?_⟩
      cases i with
      | zero => simp only [List.getD_cons_zero]; omega
      | succ i =>
        have : (List.replicate x.length (0 : Int)).getD i 0 = 0 := by
          rw [List.getD_eq_getElem?_getD, List.getElem?_replicate]
          split <;> rfl
        simp only [List.getD_cons_succ, this]
        omega
  · rw [if_neg c]
    obtain ⟨n0, n1⟩ := near_facts (x := x) h1 (k := k) hk c
    obtain ⟨g1, g2, g3⟩ := grow_facts (x.map mg) k (sumL (x.map mg)) (n := x.length) h1 (k - sumL ((x.map mg).map fun z => k * z / sumL (x.map mg))).toNat ((x.map mg).map fun z => k * z / sumL (x.map mg)) (by simp) n1
    exact ⟨by rw [List.length_zipWith, g1, Nat.min_self], by rw [sz1_zip _ _ g1.symm g2]; omega, zip_sign _ _ g1.symm g2⟩
end
end Go.Pl
/-
  Layer 20: a band that is written: what it costs, and how it is read.
  Conditions: none.
-/
namespace Go.Pl
open Go.Eng Go.Proofs
set_option maxRecDepth 100000
def st (n : Int) (i : Nat) : Int := (i : Int) * n / pN n
theorem st_step (n : Int) (i : Nat) : st n i + pcv n i = st n (i + 1) := by
  have := pc_start (n := n) i
  unfold st
  omega
theorem st_range {n : Int} (h0 : 1 ≤ n) (h1 : n ≤ 1000) {i : Nat} (hi : i ≤ pN n) : 0 ≤ st n i ∧ st n i ≤ n := by
  obtain ⟨p0, p1, _⟩ := pN_range h0 h1
  refine ⟨Int.ediv_nonneg (pc_small h0 h1 (by omega)).1 (by omega), ?_⟩
  have h : (i : Int) * n ≤ pN n * n := Int.mul_le_mul_of_nonneg_right (by omega) (by omega)
  have := Int.ediv_le_ediv (show (0 : Int) < pN n by omega) h
  rw [pc_end h0 h1] at this
  exact this
def pc (f : List Int) (n : Int) (i : Nat) : List Int := ((f.drop (st n i).toNat).take (pcv n i).toNat)
theorem pc_len {f : List Int} {n : Int} (hn : (f.length : Int) = n) (h0 : 1 ≤ n) (h1 : n ≤ 1000) {i : Nat} (hi : i < pN n) : (pc f n i).length = (pcv n i).toNat := by
  have a := st_range h0 h1 (i := i) (by omega)
  have b := st_range h0 h1 (i := i + 1) (by omega)
  have c := st_step n i
  have d := pcv_range h0 h1 i
  unfold pc
  rw [List.length_take, List.length_drop]
  omega
def pk (n bb : Int) (i : Nat) : Nat := kOf (pcv n i).toNat (spv n bb i)
def py (f : List Int) (n bb : Int) (i : Nat) : List Int := nearL (pc f n i) (pk n bb i)
noncomputable def wr (f : List Int) (n bb e : Int) : Nat → Nat → E → Int → List Int → E × Int × List Int
  | 0, _, en, s, out => (en, s, out)
  | m + 1, i, en, s, out =>
    if pk n bb i = 0 then wr f n bb e m (i + 1) en (hsh (hv e) (pcv n i).toNat s).2 (out ++ (hsh (hv e) (pcv n i).toNat s).1)
    else wr f n bb e m (i + 1) (en.un (ix (py f n bb i) (pk n bb i)) (cnt (pcv n i).toNat (pk n bb i))) s (out ++ fillV (sz (cl e)) (py f n bb i))
theorem py_facts {f : List Int} {n bb : Int} (hn : (f.length : Int) = n) (h0 : 1 ≤ n) (h1 : n ≤ 1000) {i : Nat} (hi : i < pN n) :
    ∃ mm : Nat, pcv n i = mm ∧ 1 ≤ mm ∧ mm ≤ 16 ∧ (pc f n i).length = mm ∧ (py f n bb i).length = mm ∧ sz1 (py f n bb i) = pk n bb i ∧ (pk n bb i : Int) ≤ mostT mm ∧ pk n bb i ≤ 64 ∧ pk n bb i = kOf mm (spv n bb i) ∧
      1 ≤ cnt mm (pk n bb i) ∧ cnt mm (pk n bb i) < 4294967296 ∧ 0 ≤ ix (py f n bb i) (pk n bb i) ∧ ix (py f n bb i) (pk n bb i) < cnt mm (pk n bb i) ∧ vec mm (pk n bb i) (ix (py f n bb i) (pk n bb i)) = py f n bb i := by
  obtain ⟨r0, r1⟩ := pcv_range h0 h1 i
  obtain ⟨mm, hmm⟩ : ∃ mm : Nat, pcv n i = mm := ⟨(pcv n i).toNat, by omega⟩
  have hl := pc_len hn h0 h1 hi
  have hpk : pk n bb i = kOf mm (spv n bb i) := by unfold pk; rw [hmm, Int.toNat_natCast]
  have hk := kOf_le mm (spv n bb i)
  rw [← hpk] at hk
  rw [hmm, Int.toNat_natCast] at hl
  have hs := near_spec (x := pc f n i) (k := (pk n bb i : Int)) (by omega) (by omega)
  have hlen : (py f n bb i).length = mm := by unfold py; rw [hs.1, hl]
  have hsz : sz1 (py f n bb i) = pk n bb i := by have := hs.2.1; unfold py; omega
  have hu := un_most (n := mm) (k := pk n bb i) (by omega) (by omega) hk.1
  have hix := ix_spec (py f n bb i) (pk n bb i) hsz (by rw [hlen]; exact hu)
  rw [hlen] at hix
  have hp : 1 ≤ cnt mm (pk n bb i) := by
    obtain ⟨m', rfl⟩ : ∃ m', mm = m' + 1 := ⟨mm - 1, by omega⟩
    exact cnt_pos m' _
  exact ⟨mm, hmm, by omega, by omega, hl, hlen, hsz, hk.1, by omega, hpk, hp, hu, hix⟩
section
variable {N : Nat}
theorem pwrite_any {y : List Int} {e : E} (h : e.Ok) (hl : e.Low) (h1 : 1 ≤ y.length) (h2 : y.length ≤ 16) (h3 : (sz1 y : Int) ≤ mostT y.length) (hN : 30000 ≤ N) : Rc.pwrite.F N e.val e.rng e.r e.count y e.told e.bits =
    some (0, (e.un (ix y (sz1 y)) (cnt y.length (sz1 y))).val, (e.un (ix y (sz1 y)) (cnt y.length (sz1 y))).rng, ((e.un (ix y (sz1 y)) (cnt y.length (sz1 y))).r : Int), (e.un (ix y (sz1 y)) (cnt y.length (sz1 y))).count, (e.un (ix y (sz1 y)) (cnt y.length (sz1 y))).told, (e.un (ix y (sz1 y)) (cnt y.length (sz1 y))).bits) := by
  unfold Rc.pwrite.F
  simp only [br_bne]
  have hm := mostT_range y.length
  have hps := (sz1_small y (by omega)).1
  have hu := un_most (n := y.length) (k := sz1 y) h1 h2 h3
  obtain ⟨i0, i1, i2⟩ := ix_spec y (sz1 y) rfl hu
  have hA : cntA (y.length : Int) (sz1 y : Int) = cnt y.length (sz1 y) := by
    unfold cntA
    rw [if_pos (by omega), Int.toNat_natCast, Int.toNat_natCast]
  rw [pindex_F _ (by omega), obind_of, if_pos (show 1 ≤ y.length ∧ y.length ≤ 16 ∧ psumL y ≤ mostT y.length by omega)]
  simp only [if_true]
  have := hl.k
  rw [pcount_F _ _ (by omega), obind_of, euint_F h (hl.lim hN) (by omega), hps, hA, if_pos ⟨by omega, by omega, i0, i1⟩, obind_of]
theorem wr_loop {f : List Int} {n bb e : Int} (hn : (f.length : Int) = n) (h0 : 1 ≤ n) (h1 : n ≤ 1000) (b0 : 0 ≤ bb) (hN : 30000 ≤ N) : ∀ (nn m i : Nat) (en : E) (s : Int) (out : List Int), i + m = pN n → en.Ok → en.k ≤ 4 * i → en.r ≤ 24 * i → out.length ≤ 16 * i → 0 ≤ s → s < 4294967296 → m < nn →
    Rc.piecesW.loop2 N nn (pN n) e f (spl n bb) (pcs n) (st n i) i en.val en.rng en.r en.count s out en.told en.bits =
      some ((wr f n bb e m i en s out).1.val, (wr f n bb e m i en s out).1.rng, ((wr f n bb e m i en s out).1.r : Int), (wr f n bb e m i en s out).1.count, (wr f n bb e m i en s out).2.1, (wr f n bb e m i en s out).2.2, (wr f n bb e m i en s out).1.told, (wr f n bb e m i en s out).1.bits)
  | 0, _, _, _, _, _, _, _, _, _, _, _, _, h => by omega
  | nn + 1, 0, i, en, s, out, hi, h, hk, hr, ho, s0, s1, hh => by
    unfold Rc.piecesW.loop2
    simp only [br_dec, chkI_same, chkL_same, wr]
    rw [if_neg (by omega)]
  | nn + 1, m + 1, i, en, s, out, hi, h, hk, hr, ho, s0, s1, hh => by
    obtain ⟨p0, p1, _⟩ := pN_range h0 h1
    obtain ⟨mm, g1, g2, g3, g4, g5, g6, g7, g8, g9, g10, g11, g12, g13, g14⟩ := py_facts (bb := bb) hn h0 h1 (i := i) (by omega)
    have hP := pcs_get (n := n) (i := i) (by omega)
    have hS := spl_get (n := n) (bb := bb) (i := i) (by omega)
    rw [g1] at hP
    have a := st_range h0 h1 (i := i) (by omega)
    have b := st_range h0 h1 (i := i + 1) (by omega)
    have cst := st_step n i
    rw [g1] at cst
    unfold Rc.piecesW.loop2
    simp only [br_dec, chkI_same, chkL_same, pcs_len, spl_len, Int.toNat_natCast, hP, hS]
    rw [if_pos (by omega), chk_pos (by omega), chk_pos (by omega), apulses_F (by omega) (by omega) (by omega), obind_of, i64 (x := (i : Int) + 1) (by omega) (by omega), ← g9, i64 (x := st n i + mm) (by omega) (by omega), cst]
    simp only [wr]
    rw [g1, Int.toNat_natCast]
    unfold Rc.wclo.F
    simp only [br_dec, chkI_same, chkL_same]
    by_cases c : pk n bb i = 0
    · have hrs := hsh_range (hv e) mm s s0 s1
      have ih := wr_loop (e := e) hn h0 h1 b0 hN nn m (i + 1) en (hsh (hv e) mm s).2 (out ++ (hsh (hv e) mm s).1) (by omega) h (by omega) (by omega) (by rw [List.length_append, hsh_len]; omega) hrs.1 hrs.2 (by omega)
      rw [show ((i + 1 : Nat) : Int) = (i : Int) + 1 by omega] at ih
      rw [if_pos c, c, if_neg (by omega), filledN_F (by omega) (by omega) (by omega), obind_of, chk_pos (by simp only [hsh_len]; omega), obind_of]
      exact ih
    · have hok := E.un_ok h g12 g13 (by omega)
      have hsm := un_same17 (e := en) (v := ix (py f n bb i) (pk n bb i)) (ft := cnt mm (pk n bb i))
      have hr2 : (en.un (ix (py f n bb i) (pk n bb i)) (cnt mm (pk n bb i))).r ≤ en.r + 24 := by
        rcases Int.lt_or_le 256 (cnt mm (pk n bb i)) with d | d
        · obtain ⟨b0, b1, _⟩ := ub_range (ft := cnt mm (pk n bb i)) d (by omega)
          have := hsm.2.2.2.2 d
          omega
        · have := (hsm.1 d).1
          omega
      have ih := wr_loop (e := e) hn h0 h1 b0 hN nn m (i + 1) (en.un (ix (py f n bb i) (pk n bb i)) (cnt mm (pk n bb i))) s (out ++ fillV (sz (cl e)) (py f n bb i)) (by omega) hok (by omega) (by omega) (by rw [List.length_append, fillV_len]; omega) s0 s1 (by omega)
      rw [show ((i + 1 : Nat) : Int) = (i : Int) + 1 by omega] at ih
      have hpw := pwrite_any (N := N) (y := py f n bb i) h (e := en) ⟨by omega, by omega⟩ (by omega) (by omega) (by rw [g5, g6]; exact g7) hN
      rw [g5, g6] at hpw
      have hfo : FillOk (py f n bb i) (sz (cl e)) := by
        have := vec_fill (e := e) (n := mm) (k := pk n bb i) (by omega) (by omega) (by omega) g7 g12 g13
        rwa [g14] at this
      have hpc : List.take ((st n (i + 1)).toNat - (st n i).toNat) (List.drop (st n i).toNat f) = pc f n i := by
        unfold pc
        rw [g1, show (st n (i + 1)).toNat - (st n i).toNat = (mm : Int).toNat by omega]
      have hw : IntKind.i64.wrap (st n i + mm) = st n (i + 1) := by rw [i64 (by omega) (by omega), cst]
      rw [if_neg c, if_pos (by omega), hw, chk_pos (by omega), chk_pos (by omega), hpc, pnear_F _ _ (by omega), if_pos ⟨by omega, by omega, by omega, by rw [g4]; exact g7⟩, obind_of]
      simp only [show nearL (pc f n i) (pk n bb i : Int) = py f n bb i from rfl]
      rw [hpw, obind_of, filled_some hfo (by omega), obind_of, chk_pos (by simp only [fillV_len]; omega), obind_of]
      exact ih
end
end Go.Pl
/-
  Layer 20: a band that is written is read back.
  Conditions: none.
-/
namespace Go.Pl
open Go.Eng Go.Proofs
set_option maxRecDepth 100000
section
variable {N : Nat} {b : List Int}
end
theorem swrite_ok {N : Nat} {f : List Int} {bits e seed : Int} (hN : 30000 ≤ N) (h0 : 1 ≤ f.length) (h1 : f.length ≤ 1000) (b0 : 0 ≤ bits) (b1 : bits ≤ 1048576) (s0 : 0 ≤ seed) (s1 : seed < 4294967296) :
    Rc.swrite.F N bits e E.new.val E.new.rng (E.new.r : Int) E.new.count seed f E.new.told E.new.bits =
      some (0, (wr f f.length bits e (pN f.length) 0 E.new seed []).1.val, (wr f f.length bits e (pN f.length) 0 E.new seed []).1.rng, ((wr f f.length bits e (pN f.length) 0 E.new seed []).1.r : Int), (wr f f.length bits e (pN f.length) 0 E.new seed []).1.count,
        (wr f f.length bits e (pN f.length) 0 E.new seed []).2.1, (wr f f.length bits e (pN f.length) 0 E.new seed []).2.2, (wr f f.length bits e (pN f.length) 0 E.new seed []).1.told, (wr f f.length bits e (pN f.length) 0 E.new seed []).1.bits) := by
  have hk : E.new.k = 0 := rfl
  have hr : E.new.r = 0 := rfl
  obtain ⟨p0, p1, _⟩ := pN_range (n := (f.length : Int)) (by omega) (by omega)
  have hst : st (f.length : Int) 0 = 0 := by unfold st; simp
  have hw := wr_loop (N := N) (f := f) (n := f.length) (bb := bits) (e := e) rfl (by omega) (by omega) b0 hN N (pN f.length) 0 E.new seed [] (by omega) E.new_ok (by omega) (by omega) (by simp) s0 s1 (by omega)
  rw [hst, show ((0 : Nat) : Int) = 0 from rfl] at hw
  unfold Rc.swrite.F Rc.piecesW.F
  simp only [br_dec, chkI_same, chkL_same]
  rw [if_neg (by omega), if_neg (by omega), if_neg (by omega), if_neg (by omega), asplit_F (by omega) (by omega) (by omega) (by omega) (by omega), obind_of, aPieces_F (by omega) (by omega) (by omega), obind_of, pcs_len, hw, obind_of, obind_of]
end Go.Pl
/-
  Layer 20: the greatest number keeps its sign.
  Conditions: none.
-/
namespace Go.Pl
open Go.Eng Go.Proofs
set_option maxRecDepth 100000
structure First (g : Nat → Int) (n k : Nat) : Prop where
  l : k < n
  m : ∀ i, i < n → g i ≤ g k
  f : ∀ i, i < k → g i < g k
theorem First.eq {g : Nat → Int} {n j k : Nat} (h : First g n j) (h' : First g n k) : j = k := by
  rcases Nat.lt_trichotomy j k with c | c | c
  · have := h'.f j c; have := h.m k h'.l; omega
  · exact c
  · have := h.f k c; have := h'.m j h.l; omega
theorem First.step {g : Nat → Int} {i b : Nat} (h : First g i b) : First g (i + 1) (if g i > g b then i else b) := by
  by_cases c : g i > g b
  · rw [if_pos c]
    refine ⟨by omega, fun j hj => ?_, fun j hj => ?_⟩
    · rcases Nat.lt_or_ge j i with d | d
      · have := h.m j d; omega
      · rw [show j = i by omega]; omega
    · have := h.m j hj; omega
  · rw [if_neg c]
    refine ⟨by have := h.l; omega, fun j hj => ?_, h.f⟩
    rcases Nat.lt_or_ge j i with d | d
    · exact h.m j d
    · rw [show j = i by omega]; omega
theorem bst_first {Z Y : List Int} {k S : Int} : ∀ (d b i : Nat), First (scN Z Y k S) i b → First (scN Z Y k S) (i + d) (bst Z Y k S d b i)
  | 0, b, i, h => h
  | d + 1, b, i, h => by
    simp only [bst]
    have := bst_first d _ (i + 1) h.step
    rwa [show i + 1 + d = i + (d + 1) by omega] at this
theorem topN_first (Z Y : List Int) (k S : Int) {n : Nat} (h : 1 ≤ n) : First (scN Z Y k S) n (topN Z Y k S n) := by
  have := bst_first (Z := Z) (Y := Y) (k := k) (S := S) (n - 1) 0 1 ⟨by omega, fun i hi => by rw [show i = 0 by omega]; omega, fun i hi => by omega⟩
  rwa [show 1 + (n - 1) = n by omega] at this
theorem grow_inv {Z : List Int} {K S : Int} {n κ : Nat} (hF : First (fun i => Z.getD i 0) n κ) (hK : 0 < K) (hS : 0 < S) : ∀ (l : Nat) (Y : List Int), Y.length = n → (∀ i, i < n → Y.getD i 0 ≤ Y.getD κ 0 + 1) → (1 ≤ Y.getD κ 0 ∨ (∀ i, Y.getD i 0 = 0) ∧ 1 ≤ l) →
    (∀ i, i < n → (growN Z K S n l Y).getD i 0 ≤ (growN Z K S n l Y).getD κ 0 + 1) ∧ 1 ≤ (growN Z K S n l Y).getD κ 0
  | 0, Y, hY, h1, h2 => ⟨h1, by rcases h2 with h | h; exact h; omega⟩
  | l + 1, Y, hY, h1, h2 => by
    simp only [growN]
    have hl := hF.l
    have ht := topN_first Z Y K S (n := n) (by omega)
    generalize topN Z Y K S n = t at *
    have htl := ht.l
    have a1 : Z.getD t 0 * K ≤ Z.getD κ 0 * K := Int.mul_le_mul_of_nonneg_right (hF.m t htl) (by omega)
    have a2 := ht.m κ hl
    unfold scN at a2
    refine grow_inv hF hK hS l _ (by rw [List.length_set]; exact hY) (fun i hi => ?_) (Or.inl ?_)
    · have b1 := h1 i hi
      rw [getD_set, getD_set]
      by_cases c : κ = t
      · subst c
        rw [if_pos (show κ = κ ∧ κ < Y.length from ⟨rfl, by omega⟩)]
        split <;> omega
      · rw [if_neg (show ¬ (κ = t ∧ t < Y.length) from fun h => c h.1)]
        by_cases d : i = t
        · rw [if_pos ⟨d, by omega⟩]
          have : S * Y.getD t 0 ≤ S * Y.getD κ 0 := by omega
          have := Int.le_of_mul_le_mul_left this hS
          omega
        · rw [if_neg (fun h => d h.1)]
          exact b1
    · rw [getD_set]
      rcases h2 with h | ⟨h, _⟩
      · split
        · rename_i hh
          rw [← hh.1]
          omega
        · exact h
      · have e : t = κ := by
          have hz : ∀ i, scN Z Y K S i = Z.getD i 0 * K := fun i => by unfold scN; rw [h i, Int.mul_zero, Int.sub_zero]
          refine First.eq (g := scN Z Y K S) ht ⟨hl, fun i hi => ?_, fun i hi => ?_⟩
          · rw [hz, hz]; exact Int.mul_le_mul_of_nonneg_right (hF.m i hi) (by omega)
          · rw [hz, hz]; exact Int.mul_lt_mul_of_pos_right (hF.f i hi) hK
        rw [if_pos ⟨e.symm, by omega⟩, h t]
        omega
theorem sumL_zero : ∀ l : List Int, (∀ i, l.getD i 0 = 0) → sumL l = 0
  | [], _ => rfl
  | x :: l, h => by
    have h0 := h 0
    have := sumL_zero l fun i => by simpa using h (i + 1)
    simp only [List.getD_cons_zero] at h0
    simp only [sumL]
    omega
theorem map_getD (g : Int → Int) (hg : g 0 = 0) (l : List Int) (i : Nat) : (l.map g).getD i 0 = g (l.getD i 0) := by
  rw [List.getD_eq_getElem?_getD, List.getD_eq_getElem?_getD, List.getElem?_map]
  cases l[i]? with
  | none => simp [hg]
  | some v => rfl
theorem mg0 : mg 0 = 0 := by decide
theorem ssq_bound {M : Int} (hM : 0 ≤ M) : ∀ y : List Int, (∀ x ∈ y, -M ≤ x ∧ x ≤ M) → ssq y ≤ y.length * (M * M)
  | [], _ => by simp [ssq]
  | x :: y, h => by
    have ih := ssq_bound hM y fun z hz => h z (by simp [hz])
    have hx := h x (by simp)
    have h2 : 0 ≤ (M - x) * (M + x) := Int.mul_nonneg (by omega) (by omega)
    have h3 : (M - x) * (M + x) = M * M - x * x := by grind
    have h4 : ((y.length + 1 : Nat) : Int) * (M * M) = (y.length : Int) * (M * M) + M * M := by rw [Int.natCast_add]; grind
    simp only [ssq, List.length_cons]
    omega
theorem near_top {f : List Int} {K : Int} {κ : Nat} (hF : First (fun i => (f.map mg).getD i 0) f.length κ) (hK : 0 < K) (h0 : f.getD κ 0 ≠ 0) :
    ∃ v : Int, 1 ≤ v ∧ (nearL f K).getD κ 0 = sg (f.getD κ 0) v ∧ ∀ x ∈ nearL f K, -(v + 1) ≤ x ∧ x ≤ v + 1 := by
  have hl := hF.l
  have hz : 1 ≤ (f.map mg).getD κ 0 := by
    rw [map_getD mg mg0]
    unfold mg c24
    split
    · omega
    · split <;> omega
  obtain ⟨s0, s1⟩ := (nn_map_mg f).le
  have hS : 0 < sumL (f.map mg) := by have := s1 κ; omega
  obtain ⟨n0, n1⟩ := near_facts (x := f) (by omega) (k := K) (by omega) (by omega)
  unfold nearL
  rw [if_neg (by omega)]
  have hfl : ∀ i, ((f.map mg).map fun z => K * z / sumL (f.map mg)).getD i 0 = K * (f.map mg).getD i 0 / sumL (f.map mg) := fun i => map_getD (fun z => K * z / sumL (f.map mg)) (by simp) _ i
  have hmono : ∀ i, i < f.length → K * (f.map mg).getD i 0 / sumL (f.map mg) ≤ K * (f.map mg).getD κ 0 / sumL (f.map mg) := fun i hi =>
    Int.ediv_le_ediv hS (Int.mul_le_mul_of_nonneg_left (hF.m i hi) (by omega))
  have hg := grow_inv (Z := f.map mg) (K := K) (S := sumL (f.map mg)) hF hK hS (K - sumL ((f.map mg).map fun z => K * z / sumL (f.map mg))).toNat ((f.map mg).map fun z => K * z / sumL (f.map mg)) (by simp) (fun i hi => by rw [hfl, hfl]; have := hmono i hi; omega) (by
    by_cases c : 1 ≤ ((f.map mg).map fun z => K * z / sumL (f.map mg)).getD κ 0
    · exact Or.inl c
    · have hall : ∀ i, ((f.map mg).map fun z => K * z / sumL (f.map mg)).getD i 0 = 0 := fun i => by
        have a := n1 i
        rcases Nat.lt_or_ge i f.length with d | d
        · have b := hmono i d
          rw [← hfl, ← hfl] at b
          omega
        · rw [List.getD_eq_getElem?_getD, List.getElem?_eq_none (by simpa using d)]
          rfl
      refine Or.inr ⟨hall, ?_⟩
      rw [sumL_zero _ hall]
      omega)
  have hgf := grow_facts (f.map mg) K (sumL (f.map mg)) (n := f.length) (by omega) (K - sumL ((f.map mg).map fun z => K * z / sumL (f.map mg))).toNat ((f.map mg).map fun z => K * z / sumL (f.map mg)) (by simp) n1
  generalize growN (f.map mg) K (sumL (f.map mg)) f.length (K - sumL ((f.map mg).map fun z => K * z / sumL (f.map mg))).toNat ((f.map mg).map fun z => K * z / sumL (f.map mg)) = G at hg hgf
  have hzip : ∀ i, i < f.length → (List.zipWith sg f G).getD i 0 = sg (f.getD i 0) (G.getD i 0) := fun i hi => by
    simp only [List.getD_eq_getElem?_getD, List.getElem?_zipWith, List.getElem?_eq_getElem hi, List.getElem?_eq_getElem (show i < G.length by omega)]
    rfl
  refine ⟨G.getD κ 0, hg.2, hzip κ hl, fun x hx => ?_⟩
  obtain ⟨i, hi, rfl⟩ := List.getElem_of_mem hx
  rw [List.length_zipWith] at hi
  have e := hzip i (by omega)
  rw [List.getD_eq_getElem?_getD, List.getElem?_eq_getElem (by rw [List.length_zipWith]; exact hi)] at e
  have a := hg.1 i (by omega)
  have b := hgf.2.1 i
  simp only [Option.getD_some] at e
  rw [e]
  unfold sg
  split <;> omega
theorem fill_sign {A v : Int} {y : List Int} {κ : Nat} (h : FillOk y A) (A0 : 4 ≤ A) (hk : κ < y.length) (v1 : 1 ≤ v) (hy : ∀ x ∈ y, -(v + 1) ≤ x ∧ x ≤ v + 1) :
    (y.getD κ 0 = v → 0 < (fillV A y).getD κ 0) ∧ (y.getD κ 0 = -v → (fillV A y).getD κ 0 < 0) := by
  obtain ⟨h1, h2, _, h4, h5⟩ := h
  have hs0 := ssq_nonneg y
  have hs1 := ssq_le y h5
  by_cases hz : ssq y = 0
  · have hall := (ssq_zero y).1 hz
    have : y.getD κ 0 = 0 := by
      rw [List.getD_eq_getElem?_getD, List.getElem?_eq_getElem hk]
      exact hall _ (List.getElem_mem hk)
    exact ⟨fun e => by omega, fun e => by omega⟩
  obtain ⟨r, _, g1⟩ := rsqrt_F (N := 200) (a := 1048576 * ssq y) (by omega) (by omega) (by omega)
  obtain ⟨t, _, g2⟩ := rsqrt_F (N := 200) (a := 1048576 * y.length) (by omega) (by omega) (by omega)
  have ht := root_t h2 g2
  have hr := root_r (by omega) g1
  have hsb := ssq_bound (M := v + 1) (by omega) y hy
  unfold fillV
  rw [if_neg hz, rt_of g1, rt_of g2]
  have hget : (fl A r t y).getD κ 0 = A * y.getD κ 0 * t / r := map_getD (fun v => A * v * t / r) (by simp) y κ
  rw [hget]
  have a1 := g1.l
  have b2 := g2.u
  have t0 := g2.p
  have n0 : (1 : Int) ≤ (y.length : Int) := by omega
  generalize (y.length : Int) = n at *
  generalize ssq y = s at *
  have et : (t + 1) * (t + 1) = t * t + 2 * t + 1 := by grind
  have tt : 1040384 * n ≤ t * t := by omega
  have t1 : 1 ≤ t := by
    rcases Int.lt_or_le t 1 with c | c
    · have : t = 0 := by omega
      subst this
      omega
    · exact c
  have vv0 : 1 ≤ v * v := by have := Int.mul_le_mul v1 v1 (by omega) (by omega); omega
  have ev : (v + 1) * (v + 1) = v * v + 2 * v + 1 := by grind
  have vv1 : v ≤ v * v := by have := Int.mul_le_mul_of_nonneg_left v1 (show 0 ≤ v by omega); omega
  have c1 : n * ((v + 1) * (v + 1)) ≤ n * (4 * (v * v)) := Int.mul_le_mul_of_nonneg_left (by omega) (by omega)
  have c2 : n * (4 * (v * v)) = 4 * (n * (v * v)) := by grind
  have c3 : 1040384 * n * (v * v) ≤ t * t * (v * v) := Int.mul_le_mul_of_nonneg_right tt (by omega)
  have c4 : 1040384 * n * (v * v) = 1040384 * (n * (v * v)) := by grind
  have c5 : 16 * (t * t * (v * v)) ≤ A * A * (t * t * (v * v)) := Int.mul_le_mul_of_nonneg_right (by have := Int.mul_le_mul A0 A0 (by omega) (by omega); omega) (Int.mul_nonneg (Int.mul_nonneg t0 t0) (by omega))
  have c6 : A * A * (t * t * (v * v)) = (A * v * t) * (A * v * t) := by grind
  have c7 : 0 ≤ n * (v * v) := Int.mul_nonneg (by omega) (by omega)
  have hpos : 0 ≤ A * v * t := Int.mul_nonneg (Int.mul_nonneg (by omega) (by omega)) t0
  have hrA : r ≤ A * v * t := by
    rcases Int.lt_or_le (A * v * t) r with c | c
    · have : (A * v * t + 1) * (A * v * t + 1) ≤ r * r := Int.mul_le_mul (by omega) (by omega) (by omega) (by omega)
      have e : (A * v * t + 1) * (A * v * t + 1) = (A * v * t) * (A * v * t) + 2 * (A * v * t) + 1 := by grind
      omega
    · exact c
  constructor
  · intro e
    rw [e]
    have : 1 ≤ A * v * t / r := by rw [Int.le_ediv_iff_mul_le (by omega)]; omega
    omega
  · intro e
    rw [e]
    have e2 : A * -v * t = -(A * v * t) := by grind
    rw [e2]
    have : -(A * v * t) / r < 0 := by rw [Int.ediv_lt_iff_lt_mul (by omega)]; omega
    exact this
theorem kOf_32 {n : Nat} (n0 : 1 ≤ n) (n1 : n ≤ 16) : (kOf n 32 : Int) = mostT n := by
  obtain ⟨m, rfl⟩ : ∃ m, n = m + 1 := ⟨n - 1, by omega⟩
  have hm := mostT_range (m + 1 : Nat)
  have hall : ∀ k, tells (m + 1) 32 k := fun k => by
    unfold tells
    have := cnt_small (m + 1) k
    exact bl_le (n := 32) (by omega)
  rw [kOf_eq (k := (mostT (m + 1 : Nat)).toNat) (by omega) (fun _ => hall _) (fun h => by omega)]
  omega
theorem most_12 {n : Nat} (n0 : 1 ≤ n) (n1 : n ≤ 16) : 12 ≤ mostT n := by
  unfold mostT
  rw [if_pos (by omega)]
  have h := (mostT_tab ⟨n - 1, by omega⟩).1
  rw [show ((n : Int) - 1).toNat = n - 1 by omega]
  exact h
section
variable {N : Nat}
theorem size20_F {v : Int} (h0 : -16777216 ≤ v) (h1 : v ≤ 16777216) : Rc.size20.F N v = some (mg v) := by
  unfold Rc.size20.F Rc.rclamp.F mg c24
  simp only [br_dec]
  rw [if_neg (show ¬ v < -16777216 by omega), if_neg (show ¬ v > 16777216 by omega)]
  by_cases c : v < 0
  · rw [if_pos c, obind_of, if_neg (by omega), if_neg (by omega), if_neg (by omega), obind_of, i64 (by omega) (by omega)]
    exact congrArg some (show (0 - v : Int) = (v.natAbs : Int) by omega)
  · rw [if_neg c, if_neg (by omega), if_neg (by omega), obind_of, if_neg (by omega), if_neg (by omega)]
    by_cases d : v > 0
    · rw [if_pos d, obind_of, Int.sub_zero, i64 (by omega) (by omega)]
      exact congrArg some (show (v : Int) = (v.natAbs : Int) by omega)
    · obtain rfl : v = 0 := by omega
      rw [if_neg d, obind_of]
      rfl
theorem signs_loop {f ef : List Int} {ee : Int} (hl : f.length ≤ 16) : ∀ (nn i k : Nat), i ≤ f.length → f.length - i < nn → (i = 0 → k = 0) → (0 < i → First (fun j => (f.map mg).getD j 0) i k) → k < f.length → (i < f.length → -16777216 ≤ f.getD k 0 ∧ f.getD k 0 ≤ 16777216) →
    Rc.shapeSigns.loop7 N ef ee nn f k i false = some (.inr true) ∨ ∃ κ : Nat, First (fun j => (f.map mg).getD j 0) f.length κ ∧ (∀ j, i ≤ j → j < f.length → -16777216 ≤ f.getD j 0 ∧ f.getD j 0 ≤ 16777216) ∧ Rc.shapeSigns.loop7 N ef ee nn f k i false = some (.inl ((κ : Int), false))
  | 0, i, k, _, h, _, _, _, _ => by omega
  | nn + 1, i, k, hi, h, h0, hF, hk, hkk => by
    unfold Rc.shapeSigns.loop7
    simp only [br_dec, chkL_same]
    by_cases c : i < f.length
    · rw [if_pos (by omega), chk_pos (by omega), Int.toNat_natCast]
      by_cases c1 : f.getD i 0 > 16777216
      · rw [if_pos c1]; exact Or.inl rfl
      rw [if_neg c1, chk_pos (by omega)]
      by_cases c2 : f.getD i 0 < -16777216
      · rw [if_pos c2]; exact Or.inl rfl
      rw [if_neg c2, chk_pos (by omega), size20_F (by omega) (by omega), obind_of, chk_pos (by omega), Int.toNat_natCast, i64 (x := (i : Int) + 1) (by omega) (by omega)]
      obtain ⟨k0, k1⟩ : -16777216 ≤ f.getD k 0 ∧ f.getD k 0 ≤ 16777216 := hkk (by omega)
      rw [size20_F k0 k1, obind_of]
      have hm : ∀ j, (f.map mg).getD j 0 = mg (f.getD j 0) := map_getD mg mg0 f
      have hnext : First (fun j => (f.map mg).getD j 0) (i + 1) (if mg (f.getD i 0) > mg (f.getD k 0) then i else k) := by
        rcases Nat.eq_zero_or_pos i with e | e
        · have hk0 := h0 e
          subst e hk0
          rw [if_neg (by omega)]
          exact ⟨by omega, fun j hj => by rw [show j = 0 by omega]; omega, fun j hj => by omega⟩
        · have := (hF e).step
          simp only [hm] at this ⊢
          exact this
      have fin : ∀ k' : Nat, k' = (if mg (f.getD i 0) > mg (f.getD k 0) then i else k) → Rc.shapeSigns.loop7 N ef ee nn f k' ((i : Int) + 1) false = some (.inr true) ∨ ∃ κ : Nat, First (fun j => (f.map mg).getD j 0) f.length κ ∧ (∀ j, i ≤ j → j < f.length → -16777216 ≤ f.getD j 0 ∧ f.getD j 0 ≤ 16777216) ∧ Rc.shapeSigns.loop7 N ef ee nn f k' ((i : Int) + 1) false = some (.inl ((κ : Int), false)) := fun k' hk' => by
        have ih := signs_loop (ef := ef) (ee := ee) hl nn (i + 1) k' (by omega) (by omega) (fun h => by omega) (fun _ => by rw [hk']; exact hnext) (by rw [hk']; split <;> omega) (fun _ => by rw [hk']; split; exact ⟨by omega, by omega⟩; exact ⟨k0, k1⟩)
        rw [show ((i + 1 : Nat) : Int) = (i : Int) + 1 by omega] at ih
        rcases ih with ih | ⟨κ, g1, g2, g3⟩
        · exact Or.inl ih
        · refine Or.inr ⟨κ, g1, fun j h1 h2 => ?_, g3⟩
          rcases Nat.eq_or_lt_of_le h1 with e | e
          · rw [← e]; exact ⟨by omega, by omega⟩
          · exact g2 j e h2
      by_cases c3 : mg (f.getD i 0) > mg (f.getD k 0)
      · rw [if_pos c3]
        exact fin i (by rw [if_pos c3])
      · rw [if_neg c3]
        exact fin k (by rw [if_neg c3])
    · rw [if_neg (by omega)]
      refine Or.inr ⟨k, ?_, fun j h1 h2 => by omega, rfl⟩
      have := hF (by omega)
      rwa [show i = f.length by omega] at this
end
theorem shapeSigns_pure (f : List Int) (e : Int) : ∃ N, Rc.shapeSigns.F N f e = some true := by
  refine ⟨30000, ?_⟩
  unfold Rc.shapeSigns.F
  rw [awake20_F (by omega), obind_of]
  simp only [br_not, if_true, br_dec, br_beq, br_bne]
  by_cases c1 : (f.length : Int) < 1
  · rw [if_pos c1]
  by_cases c2 : (f.length : Int) > 16
  · rw [if_neg c1, if_pos c2]
  by_cases c3 : e < 8
  · rw [if_neg c1, if_neg c2, if_pos c3]
  by_cases c4 : e > 100
  · rw [if_neg c1, if_neg c2, if_neg c3, if_pos c4]
  rw [if_neg c1, if_neg c2, if_neg c3, if_neg c4]
  have hlo : Rc.shapeSigns.loop7 30000 f e 30000 f 0 0 false = some (.inr true) ∨ ∃ κ : Nat, First (fun j => (f.map mg).getD j 0) f.length κ ∧ Rc.shapeSigns.loop7 30000 f e 30000 f 0 0 false = some (.inl ((κ : Int), false)) := by
    by_cases d0 : -16777216 ≤ f.getD 0 0 ∧ f.getD 0 0 ≤ 16777216
    · have h := signs_loop (N := 30000) (f := f) (ef := f) (ee := e) (by omega) 30000 0 0 (by omega) (by omega) (fun _ => rfl) (fun h => by omega) (by omega) (fun _ => d0)
      rw [show ((0 : Nat) : Int) = 0 from rfl] at h
      rcases h with h | ⟨κ, g1, _, g3⟩
      · exact Or.inl h
      · exact Or.inr ⟨κ, g1, g3⟩
    · refine Or.inl ?_
      unfold Rc.shapeSigns.loop7
      simp only [br_dec, chkL_same]
      rw [if_pos (by omega), chk_pos (by omega), show Int.toNat 0 = 0 from rfl]
      by_cases d1 : f.getD 0 0 > 16777216
      · rw [if_pos d1]; rfl
      rw [if_neg d1, chk_pos (by omega), if_pos (by omega)]
      rfl
  rcases hlo with h | ⟨κ, hF, h⟩
  · rw [h]; rfl
  rw [h, osum_inl]
  have hκ := hF.l
  simp only [Int.toNat_natCast]
  rw [chk_pos (by omega)]
  by_cases c5 : f.getD κ 0 = 0
  · rw [if_pos c5]
  rw [if_neg c5, enew_F, obind_of]
  simp only
  obtain ⟨p0, p1, p2⟩ := pN_range (n := (f.length : Int)) (by omega) (by omega)
  have hp : pN (f.length : Int) = 1 := by omega
  have hpc : pcv (f.length : Int) 0 = f.length := by unfold pcv; rw [hp]; simp
  have hsp : spv (f.length : Int) 32 0 = 32 := by unfold spv; rw [hp]; decide
  have hst : st (f.length : Int) 0 = 0 := by unfold st; simp
  have hpcf : pc f f.length 0 = f := by unfold pc; rw [hst, hpc]; simp
  have hpk : (pk (f.length : Int) 32 0 : Int) = mostT f.length := by
    unfold pk
    rw [hpc, hsp, Int.toNat_natCast, kOf_32 (by omega) (by omega)]
  have h12 := most_12 (n := f.length) (by omega) (by omega)
  obtain ⟨mm, g1, g2, g3, g4, g5, g6, g7, g8, g9, g10, g11, g12, g13, g14⟩ := py_facts (f := f) (n := f.length) (bb := 32) rfl (by omega) (by omega) (i := 0) (by omega)
  have hfo : FillOk (py f f.length 32 0) (sz (cl e)) := by
    have := vec_fill (e := e) (n := mm) (k := pk f.length 32 0) (by omega) (by omega) (by omega) g7 g12 g13
    rwa [g14] at this
  have hout : (wr f f.length 32 e (pN f.length) 0 E.new 0 []).2.2 = fillV (sz (cl e)) (py f f.length 32 0) := by
    rw [hp]
    simp only [wr]
    rw [if_neg (by omega)]
    rfl
  have hA : 4 ≤ sz (cl e) := by
    have := sz_mono (a := 8) (b := cl e) (by omega) (by rw [cl_same (by omega) (by omega)]; omega) (cl_range e).2
    have : sz 8 = 4 := by decide
    omega
  obtain ⟨v, v1, v2, v3⟩ := near_top hF (K := pk (f.length : Int) 32 0) (by omega) c5
  have hpy : py f f.length 32 0 = nearL f (pk (f.length : Int) 32 0) := by unfold py; rw [hpcf]
  have hsg := fill_sign (κ := κ) hfo hA (by rw [g5]; omega) v1 (by rw [hpy]; exact v3)
  have hlen := fillV_len (sz (cl e)) (py f f.length 32 0)
  rw [swrite_ok (by omega) (by omega) (by omega) (by omega) (by omega) (by omega) (by omega), obind_of]
  simp only [hout, if_true]
  have hnl : (nearL f (pk (f.length : Int) 32 0)).length = f.length := by rw [← hpy, g5, ← g4, hpcf]
  rw [hpy] at hsg hlen ⊢
  rw [v2] at hsg
  rw [hnl] at hlen
  rw [if_pos (by omega), chk_pos (by omega)]
  simp only [chk_pos (show (0 : Int) ≤ (κ : Int) ∧ (κ : Int) < (f.length : Int) by omega), chk_pos (show (0 : Int) ≤ (κ : Int) ∧ (κ : Int) < ((fillV (sz (cl e)) (nearL f (pk (f.length : Int) 32 0))).length : Int) by omega)]
  by_cases c6 : f.getD κ 0 < 0
  · have h1 := hsg.2 (by unfold sg; rw [if_pos c6])
    rw [if_neg (by omega), if_pos h1, decide_eq_true c6]
  · have h1 := hsg.1 (by unfold sg; rw [if_neg c6])
    rw [if_pos h1, if_pos (by omega)]
end Go.Pl
