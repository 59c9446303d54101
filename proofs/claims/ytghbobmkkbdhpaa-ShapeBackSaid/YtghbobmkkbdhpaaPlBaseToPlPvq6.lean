/-
  Plain words for plain proofs: what the evaluator's marks come to, wraps, bits. Nothing is claimed of the program here.
  Conditions: none.
-/
import Derived.Test.YtghbobmkkbdhpaaEngMkToEngWords
import Derived.Test.YtghbobmkkbdhpaaShapeLaws
import Derived.Test.YtghbobmkkbdhpaaRcFns
import Derived.Test.YtghbobmkkbdhpaaRencFns
set_option linter.unusedVariables false
set_option linter.unusedSimpArgs false
namespace Go.Pl
open Go.Eng
variable {X Y : Type}
theorem br_true (t e : Option Y) : br true t e = t := rfl
theorem br_false (t e : Option Y) : br false t e = e := rfl
theorem br_dec {p : Prop} [Decidable p] (t e : Option Y) : br (decide p) t e = if p then t else e := by
  by_cases h : p <;> simp [br, h]
theorem br_not_dec {p : Prop} [Decidable p] (t e : Option Y) : br (!decide p) t e = if p then e else t := by
  by_cases h : p <;> simp [br, h]
theorem br_not (b : Bool) (t e : Option Y) : br (!b) t e = if b = true then e else t := by cases b <;> rfl
theorem br_bne (a b : Int) (t e : Option Y) : br (a != b) t e = if a = b then e else t := by
  by_cases h : a = b
  · subst h; simp [br]
  · have : (a != b) = true := by simpa using h
    rw [this, if_neg h]; rfl
theorem br_beq (a b : Int) (t e : Option Y) : br (a == b) t e = if a = b then t else e := by
  by_cases h : a = b
  · subst h; simp [br]
  · have : (a == b) = false := by simpa using h
    rw [this, if_neg h]; rfl
theorem chk_pos {c : Prop} [Decidable c] (h : c) (k : Option Y) : chk c k = k := by simp [chk, h]
theorem chkI_same (x : Int) (k : Option Y) : chkI x x k = k := by simp [chkI]
theorem chkB_same (x : Bool) (k : Option Y) : chkB x x k = k := by simp [chkB]
theorem chkL_same (x : List Int) (k : Option Y) : chkL x x k = k := by simp [chkL]
theorem obind_of (x : X) (k : X → Option Y) : obind (some x) k = k x := rfl
theorem osum_inl {Z : Type} (x : X) (k : X → Option Z) : osum (some (Sum.inl x)) k = k x := rfl
theorem osum_inr {Z : Type} (y : Z) (k : X → Option Z) : osum (some (Sum.inr y)) k = some y := rfl
theorem omap_of (x : X) (f : X → Y) : omap (some x) f = some (f x) := rfl
theorem u64 {x : Int} (h0 : 0 ≤ x) (h1 : x < 18446744073709551616) : IntKind.u64.wrap x = x := by
  simp only [IntKind.wrap, IntKind.signed, IntKind.bits, Bool.false_and, Bool.false_eq_true, if_false]
  omega
theorem u32 {x : Int} (h0 : 0 ≤ x) (h1 : x < 4294967296) : IntKind.u32.wrap x = x := by
  simp only [IntKind.wrap, IntKind.signed, IntKind.bits, Bool.false_and, Bool.false_eq_true, if_false]
  omega
theorem u8 {x : Int} (h0 : 0 ≤ x) (h1 : x < 256) : IntKind.u8.wrap x = x := by
  simp only [IntKind.wrap, IntKind.signed, IntKind.bits, Bool.false_and, Bool.false_eq_true, if_false]
  omega
theorem i64 {x : Int} (h0 : -9223372036854775808 ≤ x) (h1 : x < 9223372036854775808) : IntKind.i64.wrap x = x := by
  simp only [IntKind.wrap, IntKind.signed, IntKind.bits, Bool.true_and]
  split
  · rename_i h
    have h := of_decide_eq_true h
    omega
  · rename_i h
    have h : ¬ _ := fun hh => h (decide_eq_true hh)
    omega
theorem u8_mod (x : Int) : IntKind.u8.wrap x = x % 256 := by
  simp only [IntKind.wrap, IntKind.signed, IntKind.bits, Bool.false_and, Bool.false_eq_true, if_false]
  omega
theorem bits_u64 : IntKind.u64.bits = 64 := rfl
theorem bits_i64 : IntKind.i64.bits = 64 := rfl
theorem bits_u8 : IntKind.u8.bits = 8 := rfl
theorem ofInt_toNat {w : Nat} {a : Int} (h0 : 0 ≤ a) (h1 : a < 2 ^ w) : (BitVec.ofInt w a).toNat = a.toNat := by
  rw [BitVec.toNat_ofInt]
  congr 1
  exact Int.emod_eq_of_lt h0 (by exact_mod_cast h1)
theorem and_nn {w : Nat} {a b : Int} (ha : 0 ≤ a) (ha' : a < 2 ^ w) (hb : 0 ≤ b) (hb' : b < 2 ^ w) : ((BitVec.ofInt w a &&& BitVec.ofInt w b).toNat : Int) = ((a.toNat &&& b.toNat : Nat) : Int) := by
  rw [BitVec.toNat_and, ofInt_toNat ha ha', ofInt_toNat hb hb']
theorem or_nn {w : Nat} {a b : Int} (ha : 0 ≤ a) (ha' : a < 2 ^ w) (hb : 0 ≤ b) (hb' : b < 2 ^ w) : ((BitVec.ofInt w a ||| BitVec.ofInt w b).toNat : Int) = ((a.toNat ||| b.toNat : Nat) : Int) := by
  rw [BitVec.toNat_or, ofInt_toNat ha ha', ofInt_toNat hb hb']
theorem and_mask {w k : Nat} {a m : Int} (ha : 0 ≤ a) (ha' : a < 2 ^ w) (hm : m = 2 ^ k - 1) (hk : k ≤ w) : ((BitVec.ofInt w a &&& BitVec.ofInt w m).toNat : Int) = a % 2 ^ k := by
  have h1 : (0 : Int) < 2 ^ k := by exact_mod_cast Nat.two_pow_pos k
  have h2 : (2 : Int) ^ k ≤ 2 ^ w := by exact_mod_cast Nat.pow_le_pow_right (by omega) hk
  rw [and_nn ha ha' (by omega) (by omega)]
  have : m.toNat = 2 ^ k - 1 := by
    rw [hm]
    have : ((2 : Int) ^ k - 1) = ((2 ^ k - 1 : Nat) : Int) := by
      rw [Int.ofNat_sub Nat.one_le_two_pow]
      push_cast
      rfl
    rw [this]; rfl
  rw [this, Nat.and_two_pow_sub_one_eq_mod]
  obtain ⟨n, rfl⟩ := Int.eq_ofNat_of_zero_le ha
  simp
theorem and_mask_any {w k : Nat} (a : Int) {m : Int} (hm : m = 2 ^ k - 1) (hk : k ≤ w) : ((BitVec.ofInt w a &&& BitVec.ofInt w m).toNat : Int) = a % 2 ^ k := by
  have hw : (0 : Int) < 2 ^ w := by exact_mod_cast Nat.two_pow_pos w
  have h : BitVec.ofInt w a = BitVec.ofInt w (a % 2 ^ w) := by
    apply BitVec.eq_of_toNat_eq
    rw [BitVec.toNat_ofInt, BitVec.toNat_ofInt]
    congr 1
    push_cast
    rw [Int.emod_emod]
  rw [h, and_mask (Int.emod_nonneg _ (by omega)) (Int.emod_lt_of_pos _ hw) hm hk]
  exact Int.emod_emod_of_dvd a (by exact_mod_cast Nat.pow_dvd_pow 2 hk)
theorem or_add {w k : Nat} {a b : Int} (ha : 0 ≤ a) (ha' : a * 2 ^ k < 2 ^ w) (hb : 0 ≤ b) (hb' : b < 2 ^ k) (hk : k ≤ w) : ((BitVec.ofInt w (a * 2 ^ k) ||| BitVec.ofInt w b).toNat : Int) = a * 2 ^ k + b := by
  have h1 : (0 : Int) < 2 ^ k := by exact_mod_cast Nat.two_pow_pos k
  have h2 : (2 : Int) ^ k ≤ 2 ^ w := by exact_mod_cast Nat.pow_le_pow_right (by omega) hk
  rw [or_nn (Int.mul_nonneg ha (by omega)) ha' hb (by omega)]
  obtain ⟨n, rfl⟩ := Int.eq_ofNat_of_zero_le ha
  obtain ⟨m, rfl⟩ := Int.eq_ofNat_of_zero_le hb
  have e : (((n : Int) * 2 ^ k)).toNat = 2 ^ k * n := by
    have : ((n : Int) * 2 ^ k) = ((2 ^ k * n : Nat) : Int) := by push_cast; rw [Int.mul_comm]
    rw [this]; rfl
  rw [e]
  have hm : m < 2 ^ k := by exact_mod_cast hb'
  have := Nat.two_pow_add_eq_or_of_lt hm n
  rw [Int.toNat_natCast, ← this]
  push_cast
  rw [Int.mul_comm]
theorem or_comm' {w : Nat} (a b : Int) : ((BitVec.ofInt w a ||| BitVec.ofInt w b).toNat : Int) = ((BitVec.ofInt w b ||| BitVec.ofInt w a).toNat : Int) := by
  rw [BitVec.or_comm]
theorem fdiv_ediv {a b : Int} (h : 0 ≤ b) : a.fdiv b = a / b := Int.fdiv_eq_ediv_of_nonneg a h
theorem tdiv_ediv {a b : Int} (h : 0 ≤ a) : a.tdiv b = a / b := Int.tdiv_eq_ediv_of_nonneg h
theorem tmod_emod {a b : Int} (h : 0 ≤ a) : a.tmod b = a % b := Int.tmod_eq_emod_of_nonneg h
def Bytes (b : List Int) : Prop := ∀ x ∈ b, 0 ≤ x ∧ x < 256
theorem Bytes.get {b : List Int} (h : Bytes b) (i : Nat) : 0 ≤ b.getD i 0 ∧ b.getD i 0 < 256 := by
  rw [List.getD_eq_getElem?_getD]
  cases hb : b[i]? with
  | none => simp
  | some x => simpa using h x (List.mem_of_getElem? hb)
theorem getD_out {b : List Int} {i : Nat} (h : b.length ≤ i) : b.getD i 0 = 0 := by simp [List.getD_eq_getElem?_getD, List.getElem?_eq_none h]
end Go.Pl
/-
  Layer 20: the closed statement: the examples answer as told, by counting through; what each statement's beginning comes to.
  Conditions: none.
-/
namespace Go.Pl
open Go.Eng Go.Proofs
set_option maxRecDepth 100000
theorem awake20_any (N : Nat) : Rc.awake20.F (N + 1000) = some true := by kernel_rfl
theorem awake20_F {N : Nat} (h : 1000 ≤ N) : Rc.awake20.F N = some true := by
  obtain ⟨k, rfl⟩ : ∃ k, N = k + 1000 := ⟨N - 1000, by omega⟩
  exact awake20_any k
end Go.Pl
/-
  Layer 20: noise, number by number.
  Conditions: none.
-/
namespace Go.Pl
open Go.Eng Go.Proofs
def nxt (s : Int) : Int := (s * 1664525 + 1013904223) % 4294967296
def sgv (s : Int) : Int := if nxt s < 2147483648 then 1 else -1
theorem nxt_range (s : Int) : 0 ≤ nxt s ∧ nxt s < 4294967296 := by unfold nxt; omega
theorem sgv_range (s : Int) : sgv s = 1 ∨ sgv s = -1 := by unfold sgv; split <;> simp
def hsh (v : Int) : Nat → Int → List Int × Int
  | 0, s => ([], s)
  | n + 1, s => (sgv s * v :: (hsh v n (nxt s)).1, (hsh v n (nxt s)).2)
theorem hsh_len (v : Int) : ∀ (n : Nat) (s : Int), (hsh v n s).1.length = n
  | 0, _ => rfl
  | n + 1, s => by simp [hsh, hsh_len v n]
theorem hsh_range (v : Int) : ∀ (n : Nat) (s : Int), 0 ≤ s → s < 4294967296 → 0 ≤ (hsh v n s).2 ∧ (hsh v n s).2 < 4294967296
  | 0, s, h0, h1 => ⟨h0, h1⟩
  | n + 1, s, _, _ => hsh_range v n (nxt s) (nxt_range s).1 (nxt_range s).2
section
variable {N : Nat}
theorem wrap32 (x : Int) : IntKind.u32.wrap x = x % 4294967296 := rfl
theorem nnext_F (s : Int) : Rc.nnext.F N s = some (nxt s, nxt s) := by
  unfold Rc.nnext.F
  rw [wrap32, wrap32]
  have : (s * 1664525 % 4294967296 + 1013904223) % 4294967296 = nxt s := by unfold nxt; omega
  rw [this]
theorem nsign_F (s : Int) : Rc.nsign.F N s = some (sgv s, nxt s) := by
  unfold Rc.nsign.F sgv
  rw [nnext_F, obind_of]
  simp only [br_dec]
  split <;> rfl
theorem rsign_F {s : Int} (h0 : 0 ≤ s) (h1 : s < 4294967296) : Rc.rsign.F N s = some (sgv s, nxt s) := by
  unfold Rc.rsign.F
  simp only [br_dec]
  have e : IntKind.u32.wrap ((IntKind.u64.wrap (IntKind.u64.wrap (IntKind.u64.wrap s * 1664525) + 1013904223)).tmod 4294967296) = nxt s := by
    rw [u64 (x := s) (by omega) (by omega), u64 (x := s * 1664525) (by omega) (by omega), u64 (x := s * 1664525 + 1013904223) (by omega) (by omega), Int.tmod_eq_emod_of_nonneg (by omega), wrap32]
    unfold nxt
    omega
  rw [e]
  unfold sgv
  split <;> rfl
theorem half_wrap {c : Int} (h0 : 0 ≤ c) (h1 : c ≤ 33554432) : IntKind.i64.wrap ((IntKind.i64.wrap (c + 1)).tdiv 2) = (c + 1) / 2 := by
  rw [i64 (x := c + 1) (by omega) (by omega), tdiv_ediv (by omega), i64 (by omega) (by omega)]
theorem sgv_mul {s v : Int} (v0 : 0 ≤ v) (v1 : v ≤ 100000000) : IntKind.i64.wrap (sgv s * v) = sgv s * v := by
  rcases sgv_range s with h | h
  · rw [h, i64 (by omega) (by omega)]
  · rw [h, i64 (by omega) (by omega)]
theorem shush_loop {c : Int} (h0 : 0 ≤ c) (h1 : c ≤ 33554432) {n : Nat} (hn : n ≤ 1000) : ∀ (nn m : Nat) (A : List Int) (s : Int), A.length + m = n → m < nn →
    Rc.shush.loop6 N nn c n A.length s (A ++ List.replicate m 0) = some ((hsh ((c + 1) / 2) m s).2, A ++ (hsh ((c + 1) / 2) m s).1)
  | 0, m, A, s, _, h => by omega
  | nn + 1, 0, A, s, hA, h => by
    unfold Rc.shush.loop6
    simp only [br_dec]
    rw [if_neg (by omega)]
    simp [hsh]
  | nn + 1, m + 1, A, s, hA, h => by
    unfold Rc.shush.loop6
    simp only [br_dec, chkI_same, Int.toNat_natCast]
    rw [if_pos (by omega), nsign_F, obind_of, chk_pos (by simp; omega), half_wrap h0 h1, sgv_mul (by omega) (by omega), i64 (x := (A.length : Int) + 1) (by omega) (by omega)]
    have hs : (A ++ List.replicate (m + 1) (0 : Int)).set A.length (sgv s * ((c + 1) / 2)) = (A ++ [sgv s * ((c + 1) / 2)]) ++ List.replicate m 0 := by
      rw [List.replicate_succ, List.set_append_right _ _ (Nat.le_refl _)]
      simp
    rw [hs]
    have ih := shush_loop h0 h1 hn nn m (A ++ [sgv s * ((c + 1) / 2)]) (nxt s) (by simp; omega) (by omega)
    rw [List.length_append, List.length_singleton, show ((A.length + 1 : Nat) : Int) = (A.length : Int) + 1 by omega] at ih
    rw [ih]
    simp [hsh]
theorem rhush_loop {v : Int} (v0 : 0 ≤ v) (v1 : v ≤ 100000000) {n : Nat} (hn : n ≤ 1000) : ∀ (nn m : Nat) (A : List Int) (s : Int), 0 ≤ s → s < 4294967296 → A.length + m = n → m < nn →
    Rc.rhush.loop4 N nn n v A.length s A = some ((hsh v m s).2, A ++ (hsh v m s).1)
  | 0, m, A, s, _, _, _, h => by omega
  | nn + 1, 0, A, s, _, _, hA, h => by
    unfold Rc.rhush.loop4
    simp only [br_dec]
    rw [if_neg (by omega)]
    simp [hsh]
  | nn + 1, m + 1, A, s, s0, s1, hA, h => by
    unfold Rc.rhush.loop4
    simp only [br_dec, chkI_same]
    rw [if_pos (by omega), if_pos (by omega), rsign_F s0 s1, obind_of, chk_pos (by simp; omega), sgv_mul v0 v1, i64 (x := (A.length : Int) + 1) (by omega) (by omega)]
    have ih := rhush_loop v0 v1 hn nn m (A ++ [sgv s * v]) (nxt s) (nxt_range s).1 (nxt_range s).2 (by simp; omega) (by omega)
    rw [List.length_append, List.length_singleton, show ((A.length + 1 : Nat) : Int) = (A.length : Int) + 1 by omega] at ih
    rw [ih]
    simp [hsh]
def cz (v : Int) : Int := if v < 0 then 0 else if v > 33554432 then 33554432 else v
theorem cz_range (v : Int) : 0 ≤ cz v ∧ cz v ≤ 33554432 := by unfold cz; split <;> (try split) <;> omega
theorem clampz (v : Int) : Rc.clamp.F N v 0 33554432 = some (cz v) := by
  unfold Rc.clamp.F cz
  simp only [br_dec]
  rw [if_neg (by omega)]
  split
  · rfl
  · split <;> rfl
theorem rclampz (v : Int) : Rc.rclamp.F N v 0 33554432 = some (cz v) := by
  unfold Rc.rclamp.F cz
  simp only [br_dec]
  by_cases c1 : v < 0
  · rw [if_pos c1, if_pos c1]
  rw [if_neg c1, if_neg c1, if_neg (by omega)]
  split <;> rfl
def hn (n : Int) : Nat := if n < 1 then 0 else if n > 1000 then 0 else n.toNat
theorem shush_F (hN : 2000 ≤ N) (n size s : Int) : Rc.shush.F N n size s = some ((hsh ((cz size + 1) / 2) (hn n) s).2, (hsh ((cz size + 1) / 2) (hn n) s).1) := by
  unfold Rc.shush.F hn
  simp only [br_dec]
  by_cases c1 : n < 1
  · rw [if_pos c1, if_pos c1]; rfl
  rw [if_neg c1, if_neg c1]
  by_cases c2 : n > 1000
  · rw [if_pos c2, if_pos c2]; rfl
  rw [if_neg c2, if_neg c2, clampz, obind_of, chk_pos (by omega), List.length_replicate]
  have h := shush_loop (N := N) (cz_range size).1 (cz_range size).2 (n := n.toNat) (by omega) N n.toNat [] s (by simp) (by omega)
  rw [List.nil_append, List.nil_append, List.length_nil, show ((0 : Nat) : Int) = 0 from rfl] at h
  rw [h, obind_of]
theorem rhush_F (hN : 2000 ≤ N) (n size : Int) {s : Int} (s0 : 0 ≤ s) (s1 : s < 4294967296) : Rc.rhush.F N n size s = some ((hsh ((cz size + 1) / 2) (hn n) s).2, (hsh ((cz size + 1) / 2) (hn n) s).1) := by
  unfold Rc.rhush.F hn
  rw [rclampz, obind_of, half_wrap (cz_range size).1 (cz_range size).2]
  have hr := cz_range size
  obtain ⟨M, rfl⟩ : ∃ M, N = M + 1 := ⟨N - 1, by omega⟩
  by_cases c1 : n < 1
  · rw [if_pos c1]
    unfold Rc.rhush.loop4
    simp only [br_dec]
    rw [if_neg (by omega), obind_of]
    rfl
  rw [if_neg c1]
  by_cases c2 : n > 1000
  · rw [if_pos c2]
    unfold Rc.rhush.loop4
    simp only [br_dec]
    rw [if_pos (by omega), if_neg (by omega), obind_of]
    rfl
  rw [if_neg c2]
  have h := rhush_loop (N := M + 1) (v := (cz size + 1) / 2) (by omega) (by omega) (n := n.toNat) (by omega) (M + 1) n.toNat [] s s0 s1 (by simp) (by omega)
  rw [List.nil_append, List.length_nil, show ((0 : Nat) : Int) = 0 from rfl, show ((n.toNat : Nat) : Int) = n by omega] at h
  rw [h, obind_of]
theorem drop_cons20 {l : List Int} {k : Nat} (h : k < l.length) : l.drop k = l.getD k 0 :: l.drop (k + 1) := by
  rw [List.drop_eq_getElem_cons h, List.getD_eq_getElem?_getD, List.getElem?_eq_getElem h]
  rfl
theorem same20_loop {a b e1 e2 : List Int} (hab : a.length = b.length) (hl : a.length ≤ 1000000) (s : Bool) : ∀ (nn k : Nat), k ≤ a.length → a.length - k < nn →
    (a.drop k = b.drop k → Rc.same20.loop4 N nn e1 e2 a b k s = some (.inl s)) ∧ (a.drop k ≠ b.drop k → Rc.same20.loop4 N nn e1 e2 a b k s = some (.inr false))
  | 0, k, _, h => by omega
  | nn + 1, k, hk, h => by
    unfold Rc.same20.loop4
    simp only [br_dec, br_bne, chkL_same]
    by_cases c : k < a.length
    · have ih := same20_loop (e1 := e1) (e2 := e2) hab hl s nn (k + 1) (by omega) (by omega)
      rw [show ((k + 1 : Nat) : Int) = (k : Int) + 1 by omega] at ih
      rw [if_pos (by omega), chk_pos (by omega), chk_pos (by omega), Int.toNat_natCast, i64 (by omega) (by omega), drop_cons20 c, drop_cons20 (show k < b.length by omega)]
      by_cases d : a.getD k 0 = b.getD k 0
      · rw [if_pos d, d]
        refine ⟨fun he => ih.1 (List.cons.inj he).2, fun he => ih.2 fun h2 => he (by rw [h2])⟩
      · rw [if_neg d]
        exact ⟨fun he => absurd (List.cons.inj he).1 d, fun _ => rfl⟩
    · rw [if_neg (by omega)]
      exact ⟨fun _ => rfl, fun he => absurd (by rw [List.drop_eq_nil_of_le (by omega), List.drop_eq_nil_of_le (by omega)]) he⟩
theorem same20_F (a b : List Int) (hl : a.length ≤ 1000000) (hN : a.length < N) : Rc.same20.F N a b = some (decide (a = b)) := by
  unfold Rc.same20.F
  rw [br_bne]
  by_cases c : a.length = b.length
  · rw [if_pos (by omega)]
    have h := same20_loop (N := N) (e1 := a) (e2 := b) c hl false N 0 (by omega) (by omega)
    rw [show ((0 : Nat) : Int) = 0 from rfl, List.drop_zero, List.drop_zero] at h
    by_cases d : a = b
    · rw [h.1 d, osum_inl, decide_eq_true d]
    · rw [h.2 d, decide_eq_false d]; rfl
  · rw [if_neg (by omega), decide_eq_false (fun h => c (by rw [h]))]
end
end Go.Pl
/-
  Chapter 3 in plain words: the range decoder's register, and what rc's and ref3's functions come to.
  Conditions: none.
-/
namespace Go.Pl
open Go.Eng Go.Proofs
structure Q where
  rng : Int
  val : Int
  last : Int
  m : Nat
def nb (b : List Int) (m : Nat) : Int := b.getD m 0
theorem nb_range {b : List Int} (h : Bytes b) (m : Nat) : 0 ≤ nb b m ∧ nb b m < 256 := h.get m
def Q.step (b : List Int) (q : Q) : Q := ⟨q.rng * 256, q.val * 256 + 255 - ((q.last * 256 + nb b q.m) / 2) % 256, nb b q.m, q.m + 1⟩
def Q.norm (b : List Int) : Nat → Q → Q
  | 0, q => q
  | n + 1, q => if q.rng ≤ 8388608 then Q.norm b n (q.step b) else q
structure Q.Ok (q : Q) : Prop where
  r0 : 8388608 < q.rng
  r1 : q.rng ≤ 2147483648
  v0 : 0 ≤ q.val
  v1 : q.val < q.rng
  l0 : 0 ≤ q.last
  l1 : q.last < 256
structure Q.Pre (q : Q) : Prop where
  r0 : 1 ≤ q.rng
  r1 : q.rng ≤ 2147483648
  v0 : 0 ≤ q.val
  v1 : q.val < q.rng
  l0 : 0 ≤ q.last
  l1 : q.last < 256
theorem Q.Pre.step {b : List Int} {q : Q} (h : q.Pre) (hb : Bytes b) (hr : q.rng ≤ 8388608) : (q.step b).Pre := by
  obtain ⟨h1, h2, h3, h4, h5, h6⟩ := h
  obtain ⟨h7, h8⟩ := nb_range hb q.m
  exact ⟨by simp only [Q.step]; omega, by simp only [Q.step]; omega, by simp only [Q.step]; omega, by simp only [Q.step]; omega, h7, h8⟩
theorem Q.norm_ok {b : List Int} (hb : Bytes b) : ∀ (n : Nat) (q : Q), q.Pre → 8388608 < q.rng * 256 ^ n → (Q.norm b n q).Ok
  | 0, q, h, hn => ⟨by simpa [Q.norm] using hn, h.r1, h.v0, h.v1, h.l0, h.l1⟩
  | n + 1, q, h, hn => by
    simp only [Q.norm]
    split
    · rename_i hr
      refine Q.norm_ok hb n _ (h.step hb hr) ?_
      simp only [Q.step]
      rw [Int.pow_succ] at hn
      rw [Int.mul_assoc, Int.mul_comm 256]
      exact hn
    · rename_i hr
      exact ⟨by omega, h.r1, h.v0, h.v1, h.l0, h.l1⟩
def Q.on (b : List Int) (q : Q) : Q := Q.norm b 4 q
theorem Q.on_ok {b : List Int} (hb : Bytes b) {q : Q} (h : q.Pre) : (q.on b).Ok := Q.norm_ok hb 4 q h (by have := h.r0; omega)
theorem Q.norm_m (b : List Int) : ∀ (n : Nat) (q : Q), q.m ≤ (Q.norm b n q).m ∧ (Q.norm b n q).m ≤ q.m + n
  | 0, q => ⟨Nat.le_refl _, Nat.le_refl _⟩
  | n + 1, q => by
    simp only [Q.norm]
    split
    · have := Q.norm_m b n (q.step b)
      simp only [Q.step] at this ⊢
      omega
    · omega
theorem Q.on_m (b : List Int) (q : Q) : q.m ≤ (q.on b).m ∧ (q.on b).m ≤ q.m + 4 := Q.norm_m b 4 q
theorem Q.norm_stop (b : List Int) {q : Q} (h : 8388608 < q.rng) : ∀ n, Q.norm b n q = q
  | 0 => rfl
  | n + 1 => by simp only [Q.norm]; rw [if_neg (by omega)]
theorem p8 : (2 : Int) ^ min (Int.toNat (8 : Int)) IntKind.u64.bits = 256 := rfl
theorem p1 : (2 : Int) ^ min (Int.toNat (1 : Int)) IntKind.u64.bits = 2 := rfl
theorem or8 {a c : Int} (ha : 0 ≤ a) (ha' : a < 72057594037927936) (hc : 0 ≤ c) (hc' : c < 256) : ((BitVec.ofInt 64 (a * 256) ||| BitVec.ofInt 64 c).toNat : Int) = a * 256 + c :=
  or_add (w := 64) (k := 8) ha (by show a * 256 < 18446744073709551616; omega) hc hc' (by omega)
theorem and255 {a : Int} (ha : 0 ≤ a) (ha' : a < 18446744073709551616) : ((BitVec.ofInt 64 a &&& BitVec.ofInt 64 255).toNat : Int) = a % 256 :=
  and_mask (w := 64) (k := 8) ha ha' rfl (by omega)
theorem and31 {a : Int} (ha : 0 ≤ a) (ha' : a < 18446744073709551616) : ((BitVec.ofInt 64 a &&& BitVec.ofInt 64 2147483647).toNat : Int) = a % 2147483648 :=
  and_mask (w := 64) (k := 31) ha ha' rfl (by omega)
def fr (b : List Int) (m : Nat) : Int := ((min m b.length : Nat) : Int)
theorem step_val {val last x : Int} (h0 : 0 ≤ val) (h1 : val < 8388608) (l0 : 0 ≤ last) (l1 : last < 256) (x0 : 0 ≤ x) (x1 : x < 256) :
    IntKind.u64.wrap ↑(BitVec.ofInt IntKind.u64.bits (IntKind.u64.wrap (IntKind.u64.wrap (IntKind.u64.wrap (val * 256) + 255) - IntKind.u64.wrap ↑(BitVec.ofInt IntKind.u64.bits ((IntKind.u64.wrap ↑(BitVec.ofInt IntKind.u64.bits (IntKind.u64.wrap (last * 256)) ||| BitVec.ofInt IntKind.u64.bits x).toNat).fdiv 2) &&& BitVec.ofInt IntKind.u64.bits 255).toNat)) &&& BitVec.ofInt IntKind.u64.bits 2147483647).toNat =
      val * 256 + 255 - ((last * 256 + x) / 2) % 256 := by
  rw [bits_u64, u64 (x := last * 256) (by omega) (by omega), or8 l0 (by omega) x0 x1, u64 (x := last * 256 + x) (by omega) (by omega), fdiv_ediv (by omega), and255 (by omega) (by omega),
    u64 (x := (last * 256 + x) / 2 % 256) (by omega) (by omega), u64 (x := val * 256) (by omega) (by omega), u64 (x := val * 256 + 255) (by omega) (by omega), u64 (x := val * 256 + 255 - _) (by omega) (by omega),
    and31 (by omega) (by omega), u64 (by omega) (by omega)]
  omega
end Go.Pl
/-
  Chapter 3 in plain words: to choose, to take, tables, symbols, flags.
  Conditions: none.
-/
namespace Go.Pl
open Go.Eng Go.Proofs
def Q.ch (q : Q) (ft : Int) : Int := ft - min (q.val / (q.rng / ft) + 1) ft
def Q.tk0 (q : Q) (fl fh ft : Int) : Q := ⟨if fl > 0 then q.rng / ft * (fh - fl) else q.rng - q.rng / ft * (ft - fh), q.val - q.rng / ft * (ft - fh), q.last, q.m⟩
def Q.tk (b : List Int) (q : Q) (fl fh ft : Int) : Q := (q.tk0 fl fh ft).on b
theorem e_facts {r ft : Int} (h0 : 8388608 < r) (f0 : 1 ≤ ft) (f1 : ft ≤ 65536) : 1 ≤ r / ft ∧ r / ft * ft ≤ r ∧ r / ft ≤ r := by
  have h1 := Int.ediv_mul_le r (show ft ≠ 0 by omega)
  have h2 : 1 ≤ r / ft := by
    rw [Int.le_ediv_iff_mul_le (by omega)]
    omega
  refine ⟨h2, h1, ?_⟩
  have : r / ft * 1 ≤ r / ft * ft := Int.mul_le_mul_of_nonneg_left f0 (by omega)
  omega
theorem d_facts {v e : Int} (h0 : 0 ≤ v) (he : 1 ≤ e) : 0 ≤ v / e ∧ v / e * e ≤ v ∧ v < (v / e + 1) * e ∧ v / e ≤ v := by
  have h1 := Int.ediv_mul_le v (show e ≠ 0 by omega)
  have h2 := Int.lt_ediv_add_one_mul_self v (show 0 < e by omega)
  have h3 : 0 ≤ v / e := Int.ediv_nonneg h0 (by omega)
  refine ⟨h3, h1, h2, ?_⟩
  have : v / e * 1 ≤ v / e * e := Int.mul_le_mul_of_nonneg_left he h3
  omega
theorem Q.ch_range {q : Q} (h : q.Ok) {ft : Int} (f0 : 1 ≤ ft) (f1 : ft ≤ 65536) : 0 ≤ q.ch ft ∧ q.ch ft < ft := by
  obtain ⟨e0, _, _⟩ := e_facts h.r0 f0 f1
  obtain ⟨d0, _⟩ := d_facts h.v0 e0
  unfold Q.ch
  omega
structure Takes (q : Q) (fl fh ft : Int) : Prop where
  f0 : 1 ≤ ft
  f1 : ft ≤ 65536
  a : 0 ≤ fl
  b : fl ≤ q.ch ft
  c : q.ch ft < fh
  d : fh ≤ ft
theorem Takes.bounds {q : Q} (h : q.Ok) {fl fh ft : Int} (t : Takes q fl fh ft) :
    0 ≤ q.rng / ft * (ft - fh) ∧ q.rng / ft * (ft - fh) ≤ q.val ∧ q.rng / ft * (ft - fh) ≤ q.rng ∧ 1 ≤ q.rng / ft * (fh - fl) ∧ q.rng / ft * (fh - fl) ≤ q.rng ∧ (fl > 0 → q.val - q.rng / ft * (ft - fh) < q.rng / ft * (fh - fl)) := by
  obtain ⟨f0, f1, ha, hb, hc, hd⟩ := t
  obtain ⟨e0, e1, e2⟩ := e_facts h.r0 f0 f1
  obtain ⟨d0, d1, d2, d3⟩ := d_facts h.v0 e0
  unfold Q.ch at hb hc
  generalize hE : q.rng / ft = E at *
  generalize hD : q.val / E = D at *
  have hv1 := h.v1
  have k1 : 0 ≤ E * (ft - fh) := Int.mul_nonneg (by omega) (by omega)
  have k2 : E * (ft - fh) ≤ E * D := Int.mul_le_mul_of_nonneg_left (by omega) (by omega)
  have k3 : E * D = D * E := Int.mul_comm _ _
  have k4 : E * 1 ≤ E * (fh - fl) := Int.mul_le_mul_of_nonneg_left (by omega) (by omega)
  have k5 : E * (fh - fl) ≤ E * ft := Int.mul_le_mul_of_nonneg_left (by omega) (by omega)
  have k6 : E * (fh - fl) = E * (ft - fl) - E * (ft - fh) := by rw [← Int.mul_sub]; congr 1; omega
  refine ⟨k1, by omega, by omega, by omega, by omega, fun hfl => ?_⟩
  have k7 : (D + 1) * E ≤ E * (ft - fl) := by
    rw [Int.mul_comm]
    exact Int.mul_le_mul_of_nonneg_left (by omega) (by omega)
  omega
theorem Q.tk0_pre {q : Q} (h : q.Ok) {fl fh ft : Int} (t : Takes q fl fh ft) : (q.tk0 fl fh ft).Pre := by
  obtain ⟨k1, k2, k3, k4, k5, k6⟩ := t.bounds h
  have h1 := h.r1
  have h2 := h.v1
  have h3 := h.v0
  refine ⟨?_, ?_, ?_, ?_, h.l0, h.l1⟩
  · simp only [Q.tk0]; split <;> omega
  · simp only [Q.tk0]; split <;> omega
  · simp only [Q.tk0]; omega
  · simp only [Q.tk0]
    split
    · rename_i hf; exact k6 hf
    · omega
theorem Q.tk_ok {b : List Int} (hb : Bytes b) {q : Q} (h : q.Ok) {fl fh ft : Int} (t : Takes q fl fh ft) : (q.tk b fl fh ft).Ok := Q.on_ok hb (q.tk0_pre h t)
theorem Q.tk_m (b : List Int) (q : Q) (fl fh ft : Int) : q.m ≤ (q.tk b fl fh ft).m ∧ (q.tk b fl fh ft).m ≤ q.m + 4 := Q.on_m b (q.tk0 fl fh ft)
def ct (c : Int) (q q' : Q) : Int := c + 8 * ((q'.m - q.m : Nat) : Int)
section
variable {N : Nat} {front back window waiting count : Int} {bad : Bool} {b : List Int}
end
section
variable {N : Nat} {front back wait waiting count eq : Int} {bad : Bool} {b : List Int}
theorem rnext_F {rng val last : Int} (hb : Bytes b) (hl : b.length < 140737488351233) (m : Nat) :
    Rc.rnext.F N rng val last (fr b m) back wait waiting count eq bad b = some (nb b m, fr b (m + 1)) := by
  unfold Rc.rnext.F fr
  simp only [br_dec, chkI_same, chkB_same, chkL_same]
  by_cases h : m < b.length
  · have e1 : min m b.length = m := by omega
    have e2 : min (m + 1) b.length = m + 1 := by omega
    rw [e1, e2, if_neg (by omega), i64 (x := (m : Int) + 1) (by omega) (by omega), i64 (x := (m : Int) + 1 - 1) (by omega) (by omega), chk_pos (by omega)]
    have e3 : ((m : Int) + 1 - 1).toNat = m := by omega
    obtain ⟨h1, h2⟩ := nb_range hb m
    unfold nb at h1 h2 ⊢
    rw [e3, i64 (x := b.getD m 0) (by omega) (by omega)]
    rfl
  · have e1 : min m b.length = b.length := by omega
    have e2 : min (m + 1) b.length = b.length := by omega
    rw [e1, e2, if_pos (by omega)]
    unfold nb
    rw [getD_out (by omega)]
theorem rstep_val {val last x : Int} (h0 : 0 ≤ val) (h1 : val < 8388608) (l0 : 0 ≤ last) (l1 : last < 256) (x0 : 0 ≤ x) (x1 : x < 256) :
    (IntKind.u64.wrap (IntKind.u64.wrap (256 * val) + IntKind.u64.wrap (IntKind.i64.wrap (255 - (IntKind.i64.wrap ((IntKind.i64.wrap (IntKind.i64.wrap (256 * last) + x)).tdiv 2)).tmod 256)))).tmod 2147483648 =
      val * 256 + 255 - ((last * 256 + x) / 2) % 256 := by
  rw [i64 (x := 256 * last) (by omega) (by omega), i64 (x := 256 * last + x) (by omega) (by omega), tdiv_ediv (by omega), i64 (x := (256 * last + x) / 2) (by omega) (by omega), tmod_emod (a := (256 * last + x) / 2) (by omega),
    i64 (x := 255 - _) (by omega) (by omega), u64 (x := 255 - _) (by omega) (by omega), u64 (x := 256 * val) (by omega) (by omega), u64 (x := 256 * val + _) (by omega) (by omega), tmod_emod (by omega)]
  omega
theorem ron_loop (hb : Bytes b) (hl : b.length < 140737488351233) :
    ∀ (nn n : Nat) (q : Q) (count : Int), q.Pre → 8388608 < q.rng * 256 ^ n → 0 ≤ count → count + 8 * n < 2199023255552 → n < nn →
      Rc.ron.loop0 N nn back wait waiting eq bad b q.rng q.val q.last (fr b q.m) count =
        some ((Q.norm b n q).rng, (Q.norm b n q).val, (Q.norm b n q).last, fr b (Q.norm b n q).m, count + 8 * (((Q.norm b n q).m - q.m : Nat) : Int))
  | 0, n, q, count, h, hn, hc0, hc1, h0 => by omega
  | nn + 1, n, q, count, h, hn, hc0, hc1, h0 => by
    unfold Rc.ron.loop0
    simp only [br_dec, chkI_same, chkB_same, chkL_same, rnext_F hb hl, obind_of]
    by_cases hr : q.rng ≤ 8388608
    · rw [if_pos hr]
      cases n with
      | zero => simp at hn; omega
      | succ n =>
        have hs := h.step hb hr
        have ih := ron_loop hb hl nn n (q.step b) (count + 8) hs (by
          simp only [Q.step]
          rw [Int.pow_succ] at hn
          rw [Int.mul_assoc, Int.mul_comm 256]
          exact hn) (by omega) (by omega) (by omega)
        obtain ⟨h1, h2, h3, h4, h5, h6⟩ := h
        obtain ⟨h7, h8⟩ := nb_range hb q.m
        have hm := Q.norm_m b n (q.step b)
        rw [rstep_val h3 (by omega) h5 h6 h7 h8, u64 (by omega) (by omega), i64 (by omega) (by omega)]
        simp only [Q.step] at ih hm ⊢
        rw [ih]
        simp only [Q.norm, if_pos hr, Q.step]
        congr 5
        omega
    · rw [if_neg hr]
      have hs := Q.norm_stop b (q := q) (by omega) n
      rw [hs]
      simp
theorem ron_F (hb : Bytes b) (hl : b.length < 140737488351233) {q : Q} (h : q.Pre) (hc0 : 0 ≤ count) (hc1 : count < 1099511627776) (hN : 8 ≤ N) :
    Rc.ron.F N q.rng q.val q.last (fr b q.m) back wait waiting count eq bad b =
      some ((q.on b).rng, (q.on b).val, (q.on b).last, fr b (q.on b).m, count + 8 * (((q.on b).m - q.m : Nat) : Int)) := by
  unfold Rc.ron.F
  rw [ron_loop hb hl N 4 q count h (by have := h.r0; omega) hc0 (by omega) (by omega)]
  simp only [obind_of, chkI_same, chkB_same, chkL_same]
  rfl
theorem rchoose_F {q : Q} (h : q.Ok) {ft : Int} (f0 : 1 ≤ ft) (f1 : ft ≤ 65536) :
    Rc.rchoose.F N ft q.rng q.val q.last front back wait waiting count eq bad b = some (q.ch ft, q.rng / ft) := by
  obtain ⟨e0, e1, e2⟩ := e_facts h.r0 f0 f1
  obtain ⟨d0, d1, d2, d3⟩ := d_facts h.v0 e0
  have h1 := h.r1
  have h2 := h.v1
  unfold Rc.rchoose.F Q.ch
  simp only [chkI_same, chkB_same, chkL_same, br_dec]
  rw [tdiv_ediv (by omega), u64 (x := q.rng / ft) (by omega) (by omega), chk_pos (by omega), chk_pos (by omega), tdiv_ediv (by omega), u64 (x := q.val / _) d0 (by omega), u64 (x := _ + 1) (by omega) (by omega)]
  split
  · rw [u64 (by omega) (by omega), Option.some.injEq, Prod.mk.injEq]; exact ⟨by omega, rfl⟩
  · rw [u64 (by omega) (by omega), Option.some.injEq, Prod.mk.injEq]; exact ⟨by omega, rfl⟩
theorem rtake_F (hb : Bytes b) (hl : b.length < 140737488351233) {q : Q} (h : q.Ok) {fl fh ft : Int} (t : Takes q fl fh ft) (hc0 : 0 ≤ count) (hc1 : count < 1099511627776) (hN : 8 ≤ N) :
    Rc.rtake.F N fl fh ft q.rng q.val q.last (fr b q.m) back wait waiting count (q.rng / ft) bad b =
      some ((q.tk b fl fh ft).rng, (q.tk b fl fh ft).val, (q.tk b fl fh ft).last, fr b (q.tk b fl fh ft).m, ct count q (q.tk b fl fh ft)) := by
  have hp := q.tk0_pre h t
  obtain ⟨k1, k2, k3, k4, k5, k6⟩ := t.bounds h
  obtain ⟨f0, f1, ha, hb', hc, hd⟩ := t
  obtain ⟨e0, e1, e2⟩ := e_facts h.r0 f0 f1
  have h1 := h.r1
  have h2 := h.v1
  obtain ⟨c0, c1⟩ := Q.ch_range h f0 f1
  have hn := ron_F (N := N) (back := back) (wait := wait) (waiting := waiting) (count := count) (eq := q.rng / ft) (bad := bad) hb hl hp hc0 hc1 hN
  unfold Rc.rtake.F
  simp only [chkI_same, chkB_same, chkL_same, br_dec]
  rw [u64 (x := ft - fh) (by omega) (by omega), u64 (x := fh - fl) (by omega) (by omega),
    u64 (x := _ * (ft - fh)) (by omega) (by omega), u64 (x := _ * (fh - fl)) (by omega) (by omega), u64 (x := q.val - _) (by omega) (by omega), u64 (x := q.rng - _) (by omega) (by omega)]
  simp only [Q.tk0] at hn
  split
  · rename_i hf
    rw [if_pos hf] at hn
    rw [hn]
    simp only [obind_of, Q.tk, Q.tk0, if_pos hf, ct]
  · rename_i hf
    rw [if_neg hf] at hn
    rw [hn]
    simp only [obind_of, Q.tk, Q.tk0, if_neg hf, ct]
end
structure GoodT (t : List Int) : Prop where
  n0 : 1 ≤ t.length
  n1 : t.length ≤ 256
  last : t.getD (t.length - 1) 0 = 0
  first : t.getD 0 0 < 256
  down : ∀ k, 1 ≤ k → k < t.length → t.getD k 0 < t.getD (k - 1) 0
theorem GoodT.le {t : List Int} (h : GoodT t) : ∀ (d k : Nat), k + d < t.length → t.getD (k + d) 0 + d ≤ t.getD k 0
  | 0, k, _ => by simp
  | d + 1, k, hk => by
    have h1 := h.le d k (by omega)
    have h2 := h.down (k + (d + 1)) (by omega) hk
    rw [show k + (d + 1) - 1 = k + d by omega] at h2
    omega
theorem GoodT.range {t : List Int} (h : GoodT t) {k : Nat} (hk : k < t.length) : 0 ≤ t.getD k 0 ∧ t.getD k 0 < 256 := by
  have h1 := h.le (t.length - 1 - k) k (by omega)
  have h2 := h.le k 0 (by omega)
  rw [show k + (t.length - 1 - k) = t.length - 1 by omega, h.last] at h1
  rw [Nat.zero_add] at h2
  have := h.first
  omega
section
variable {N : Nat} {back window waiting count : Int} {bad : Bool} {b : List Int}
end
section
variable {N : Nat} {back wait waiting count eq : Int} {bad : Bool} {b : List Int}
end
end Go.Pl
/-
  Chapter 3 in plain words: flags, bits from the end.
  Conditions: none.
-/
namespace Go.Pl
open Go.Eng Go.Proofs
theorem p2le {a b : Nat} (h : a ≤ b) : (2 : Int) ^ a ≤ 2 ^ b := by exact_mod_cast Nat.pow_le_pow_right (by omega) h
theorem p2pos (a : Nat) : (0 : Int) < 2 ^ a := by exact_mod_cast Nat.two_pow_pos a
def Q.fs (q : Q) (n : Int) : Int := q.rng / 2 ^ n.toNat
def Q.f0 (q : Q) (n : Int) : Q := if q.val < q.fs n then ⟨q.fs n, q.val, q.last, q.m⟩ else ⟨q.rng - q.fs n, q.val - q.fs n, q.last, q.m⟩
def Q.fl (b : List Int) (q : Q) (n : Int) : Q := (q.f0 n).on b
section
variable {N : Nat} {back window waiting count : Int} {bad : Bool} {b : List Int}
end
structure W where
  win : Int
  wai : Nat
  k : Nat
def eb (b : List Int) (k : Nat) : Int := if k < b.length then b.getD (b.length - 1 - k) 0 else 0
theorem eb_range {b : List Int} (h : Bytes b) (k : Nat) : 0 ≤ eb b k ∧ eb b k < 256 := by
  unfold eb
  split
  · exact h.get _
  · omega
def W.step (b : List Int) (w : W) : W := ⟨w.win + eb b w.k * 2 ^ w.wai, w.wai + 8, w.k + 1⟩
def W.fill (b : List Int) (n : Nat) : Nat → W → W
  | 0, w => w
  | f + 1, w => if w.wai < n then W.fill b n f (w.step b) else w
structure W.Ok (w : W) : Prop where
  a : 0 ≤ w.win
  b : w.win < 2 ^ w.wai
  c : w.wai ≤ 31
theorem W.Ok.step {b : List Int} (hb : Bytes b) {w : W} (h : w.Ok) (hw : w.wai < 24) : (w.step b).Ok := by
  obtain ⟨h1, h2, h3⟩ := h
  obtain ⟨h4, h5⟩ := eb_range hb w.k
  have h6 := p2pos w.wai
  have h7 : 0 ≤ eb b w.k * 2 ^ w.wai := Int.mul_nonneg h4 (by omega)
  have h8 : eb b w.k * 2 ^ w.wai ≤ 255 * 2 ^ w.wai := Int.mul_le_mul_of_nonneg_right (by omega) (by omega)
  refine ⟨by simp only [W.step]; omega, ?_, by simp only [W.step]; omega⟩
  simp only [W.step]
  rw [Int.pow_add]
  omega
theorem W.fill_ok {b : List Int} (hb : Bytes b) {n : Nat} (hn : n ≤ 24) : ∀ (f : Nat) (w : W), w.Ok → (W.fill b n f w).Ok
  | 0, w, h => h
  | f + 1, w, h => by
    simp only [W.fill]
    split
    · exact W.fill_ok hb hn f _ (h.step hb (by omega))
    · exact h
theorem W.fill_n {b : List Int} {n : Nat} : ∀ (f : Nat) (w : W), n ≤ w.wai + 8 * f → n ≤ (W.fill b n f w).wai
  | 0, w, h => by simpa [W.fill] using h
  | f + 1, w, h => by
    simp only [W.fill]
    split
    · exact W.fill_n f _ (by simp only [W.step]; omega)
    · omega
def W.at (b : List Int) (w : W) (n : Nat) : W := W.fill b n 4 w
def W.val (b : List Int) (w : W) (n : Nat) : Int := (w.at b n).win % 2 ^ n
def W.next (b : List Int) (w : W) (n : Nat) : W := ⟨(w.at b n).win / 2 ^ n, (w.at b n).wai - n, (w.at b n).k⟩
theorem W.next_ok {b : List Int} (hb : Bytes b) {w : W} (h : w.Ok) {n : Nat} (hn : n ≤ 24) : (w.next b n).Ok := by
  obtain ⟨h1, h2, h3⟩ := W.fill_ok hb hn 4 w h
  have h4 := W.fill_n (b := b) (n := n) 4 w (by omega)
  unfold W.next W.at
  refine ⟨Int.ediv_nonneg h1 (by have := p2pos n; omega), ?_, by simp only; omega⟩
  simp only
  rw [Int.ediv_lt_iff_lt_mul (p2pos n), ← Int.pow_add, show (W.fill b n 4 w).wai - n + n = (W.fill b n 4 w).wai by omega]
  exact h2
theorem W.val_range {b : List Int} (w : W) (n : Nat) : 0 ≤ w.val b n ∧ w.val b n < 2 ^ n :=
  ⟨Int.emod_nonneg _ (by have := p2pos n; omega), Int.emod_lt_of_pos _ (p2pos n)⟩
theorem or_win {win x : Int} {wai : Nat} (h0 : 0 ≤ win) (h1 : win < 2 ^ wai) (hw : wai < 24) (x0 : 0 ≤ x) (x1 : x < 256) :
    IntKind.u64.wrap ↑(BitVec.ofInt IntKind.u64.bits win ||| BitVec.ofInt IntKind.u64.bits (IntKind.u64.wrap (x * 2 ^ min wai IntKind.u64.bits))).toNat = win + x * 2 ^ wai := by
  have h6 := p2pos wai
  have h7 : (2 : Int) ^ wai ≤ 16777216 := p2le (a := wai) (b := 24) (by omega)
  have h8 : 0 ≤ x * 2 ^ wai := Int.mul_nonneg x0 (by omega)
  have h9 : x * 2 ^ wai ≤ 255 * 2 ^ wai := Int.mul_le_mul_of_nonneg_right (by omega) (by omega)
  rw [bits_u64, show min wai 64 = wai by omega, u64 (x := x * 2 ^ wai) h8 (by omega), or_comm', or_add x0 (by show x * 2 ^ wai < 18446744073709551616; omega) h0 h1 (by omega), u64 (by omega) (by omega)]
  omega
section
variable {N : Nat} {rng val last front count : Int} {bad : Bool} {b : List Int}
theorem mask_val {win : Int} {n : Nat} (h0 : 0 ≤ win) (h1 : win < 4294967296) (hn : n ≤ 24) :
    IntKind.i64.wrap (IntKind.u64.wrap ↑(BitVec.ofInt IntKind.u64.bits win &&& BitVec.ofInt IntKind.u64.bits (IntKind.u64.wrap (IntKind.u64.wrap (1 * 2 ^ min n IntKind.u64.bits) - 1))).toNat) = win % 2 ^ n := by
  have h6 := p2pos n
  have h7 : (2 : Int) ^ n ≤ 16777216 := p2le (a := n) (b := 24) (by omega)
  have h8 := Int.emod_nonneg win (show (2 : Int) ^ n ≠ 0 by omega)
  have h9 := Int.emod_lt_of_pos win h6
  rw [bits_u64, show min n 64 = n by omega, Int.one_mul, u64 (x := 2 ^ n) (by omega) (by omega), u64 (x := 2 ^ n - 1) (by omega) (by omega),
    and_mask (w := 64) (k := n) h0 (by show win < 18446744073709551616; omega) rfl (by omega), u64 h8 (by omega), i64 (by omega) (by omega)]
end
end Go.Pl
/-
  Layer 20: both square roots (as in layer 19).
  Conditions: none.
-/
namespace Go.Pl
open Go.Eng Go.Proofs
structure Root (r a : Int) : Prop where
  p : 0 ≤ r
  l : r * r ≤ a
  u : a < (r + 1) * (r + 1)
theorem Root.le {r s a b : Int} (h : Root r a) (g : Root s b) (hab : a ≤ b) : r ≤ s := by
  rcases Int.lt_or_le s r with c | c
  · have h1 := h.l
    have h2 := g.u
    have h3 : (s + 1) * (s + 1) ≤ r * r := Int.mul_le_mul (by omega) (by omega) (by have := g.p; omega) h.p
    omega
  · exact c
theorem Root.eq {r s a : Int} (h : Root r a) (g : Root s a) : r = s := by
  have := h.le g (Int.le_refl _)
  have := g.le h (Int.le_refl _)
  omega
theorem p4 (j : Nat) : (0 : Int) < 4 ^ j := by exact_mod_cast Nat.pow_pos (n := j) (show 0 < 4 by decide)
theorem p4_step (j : Nat) : (4 : Int) ^ (j + 1) = 4 * 4 ^ j := by rw [Int.pow_succ, Int.mul_comm]
theorem p4_le {i j : Nat} (h : i ≤ j) : (4 : Int) ^ i ≤ 4 ^ j := by exact_mod_cast Nat.pow_le_pow_right (by omega) h
section
variable {N : Nat}
theorem fsqrt_loop (a : Int) : ∀ (nn j : Nat) (m rem : Int), j ≤ 31 → 0 ≤ m → 0 ≤ rem → rem + 4 * (m * m) * 4 ^ j = a → rem < (8 * m + 4) * 4 ^ j → a < 4611686018427387904 → j + 1 < nn →
    ∃ r : Int, Rc.fsqrt.loop5 N nn rem (4 * m * 4 ^ j) (4 ^ j) = some r ∧ Root r a
  | 0, _, _, _, _, _, _, _, _, _, h => by omega
  | nn + 1, j, m, rem, hj, hm, hr, ha, hu, hb, h => by
    have hS := p4 j
    have hS2 : (4 : Int) ^ j ≤ 4611686018427387904 := p4_le hj
    generalize hSS : (4 : Int) ^ j = S at hS hS2 ha hu ⊢
    have f0 : 0 ≤ (m * m) * S := Int.mul_nonneg (Int.mul_nonneg hm hm) (by omega)
    have f1 : 0 ≤ m * S := Int.mul_nonneg hm (by omega)
    have e1 : 4 * (m * m) * S = 4 * (m * m * S) := by grind
    have e2 : (8 * m + 4) * S = 8 * (m * S) + 4 * S := by grind
    have e3 : 4 * m * S = 4 * (m * S) := by grind
    have f2 : m * S ≤ m * m * S := by
      rw [Int.mul_assoc m m S]
      rcases Int.lt_or_le m 1 with c | c
      · have : m = 0 := by omega
        subst this; omega
      · have := Int.mul_le_mul_of_nonneg_right c f1
        omega
    rw [e1] at ha
    rw [e2] at hu
    rw [e3]
    unfold Rc.fsqrt.loop5
    simp only [br_dec]
    have d1 : (4 * (m * S)).fdiv ((2 : Int) ^ min (Int.toNat (1 : Int)) IntKind.u64.bits) = 2 * (m * S) := by
      rw [show ((2 : Int) ^ min (Int.toNat (1 : Int)) IntKind.u64.bits) = 2 from rfl, fdiv_ediv (by omega)]; omega
    rw [if_pos (by omega), u64 (x := 4 * (m * S) + S) (by omega) (by omega), d1, show ((2 : Int) ^ min (Int.toNat (2 : Int)) IntKind.u64.bits) = 4 from rfl, fdiv_ediv (a := S) (by omega)]
    have go : ∀ (m' rem' : Int), (m' = 2 * m + 1 ∧ rem' = rem - (4 * (m * S) + S) ∨ m' = 2 * m ∧ rem' = rem ∧ rem < 4 * (m * S) + S) → 0 ≤ rem' →
        ∃ r : Int, Rc.fsqrt.loop5 N nn rem' (m' * S) (S / 4) = some r ∧ Root r a := fun m' rem' hc hr' => by
      have hm' : 0 ≤ m' := by omega
      have g1 : rem' + m' * m' * S = a := by
        rcases hc with ⟨rfl, rfl⟩ | ⟨rfl, rfl, _⟩
        · rw [← ha]; grind
        · rw [← ha]; grind
      have g2 : rem' < (2 * m' + 1) * S := by
        rcases hc with ⟨rfl, rfl⟩ | ⟨rfl, rfl, h3⟩
        · have : (2 * (2 * m + 1) + 1) * S = 4 * (m * S) + 3 * S := by grind
          omega
        · have : (2 * (2 * m) + 1) * S = 4 * (m * S) + S := by grind
          omega
      rcases j with _ | j
      · have : S = 1 := by rw [← hSS]; rfl
        subst this
        rcases nn with _ | nn
        · omega
        refine ⟨m' * 1, ?_, ?_⟩
        · unfold Rc.fsqrt.loop5
          simp only [br_dec]
          rw [if_neg (by decide)]
        · rw [Int.mul_one]
          exact ⟨hm', by omega, by
            have : (m' + 1) * (m' + 1) = m' * m' + (2 * m' + 1) := by grind
            omega⟩
      · rw [p4_step] at hSS
        have hT : S / 4 = 4 ^ j := by omega
        rw [hT]
        have g3 : m' * S = 4 * m' * 4 ^ j := by rw [← hSS]; grind
        rw [g3]
        refine fsqrt_loop a nn j m' rem' (by omega) hm' hr' ?_ ?_ hb (by omega)
        · rw [← g1, ← hSS]; grind
        · rw [← hSS] at g2
          have : (2 * m' + 1) * (4 * 4 ^ j) = (8 * m' + 4) * 4 ^ j := by grind
          omega
    by_cases c : rem ≥ 4 * (m * S) + S
    · rw [if_pos c, u64 (x := rem - (4 * (m * S) + S)) (by omega) (by omega), u64 (x := 2 * (m * S) + S) (by omega) (by omega)]
      have := go (2 * m + 1) (rem - (4 * (m * S) + S)) (Or.inl ⟨rfl, rfl⟩) (by omega)
      rw [show (2 * m + 1) * S = 2 * (m * S) + S by grind] at this
      exact this
    · rw [if_neg c]
      have := go (2 * m) rem (Or.inr ⟨rfl, rfl, by omega⟩) hr
      rw [show 2 * m * S = 2 * (m * S) by grind] at this
      exact this
theorem fsqrt_F {a : Int} (h0 : 0 ≤ a) (h1 : a < 4611686018427387904) (hN : 100 ≤ N) : ∃ r : Int, Rc.fsqrt.F N a = some r ∧ Root r a ∧ r < 4611686018427387904 := by
  obtain ⟨r, e, g⟩ := fsqrt_loop (N := N) a N 31 0 a (by omega) (by omega) h0 (by omega) (by
    have : (4 : Int) ^ 31 = 4611686018427387904 := by decide
    omega) (by omega) (by omega)
  have hb : r < 4611686018427387904 := by
    rcases Int.lt_or_le r 4611686018427387904 with c | c
    · exact c
    · have h2 := g.l
      have h3 : 4611686018427387904 * 1 ≤ r * r := Int.mul_le_mul c (by omega) (by omega) (by omega)
      omega
  have hp := g.p
  refine ⟨r, ?_, g, hb⟩
  unfold Rc.fsqrt.F
  simp only [br_dec]
  rw [if_neg (by omega), u64 h0 (by omega)]
  rw [show (4 : Int) * 0 * 4 ^ 31 = 0 by decide, show (4 : Int) ^ 31 = 4611686018427387904 by decide] at e
  rw [e, obind_of, i64 (by omega) (by omega)]
theorem rsqrt_loop {a : Int} (h0 : 0 ≤ a) (h1 : a < 9223372036854775808) : ∀ (nn j : Nat) (s : Int), j ≤ 32 → 0 ≤ s → s ≤ 3037000499 → s * s ≤ a → a < (s + 2 ^ j) * (s + 2 ^ j) → j < nn →
    ∃ r : Int, Rc.rsqrt.loop3 N nn a s ((j : Int) - 1) = some r ∧ Root r a
  | 0, _, _, _, _, _, _, _, h => by omega
  | nn + 1, j, s, hj, s0, s1, hl, hu, h => by
    unfold Rc.rsqrt.loop3
    simp only [br_dec, chkI_same]
    rcases j with _ | j
    · rw [if_neg (by omega)]
      exact ⟨s, rfl, s0, hl, hu⟩
    · have hP : (2 : Int) ^ j ≤ 2147483648 := by
        have := p2le (show j ≤ 31 by omega)
        exact this
      have hP0 := p2pos j
      have ih := fun s' a1 a2 a3 a4 => rsqrt_loop h0 h1 nn j s' (by omega) a1 a2 a3 a4 (by omega)
      rw [Int.pow_succ] at hu
      rw [if_pos (by omega), show ((j + 1 : Nat) : Int) - 1 = (j : Int) by omega, u64 (x := (j : Int)) (by omega) (by omega), Int.toNat_natCast, show min j IntKind.i64.bits = j by rw [bits_i64]; omega, chk_pos (by omega), i64 (x := (j : Int) - 1) (by omega) (by omega)]
      generalize (2 : Int) ^ j = P at hP hP0 hu ih ⊢
      rw [i64 (x := 1 * P) (by omega) (by omega), i64 (x := s + 1 * P) (by omega) (by omega), show s + 1 * P = s + P by omega]
      by_cases c : s + P ≤ 3037000499
      · have hq : (s + P) * (s + P) ≤ 3037000499 * 3037000499 := Int.mul_le_mul c c (by omega) (by omega)
        have hq0 : 0 ≤ (s + P) * (s + P) := Int.mul_nonneg (by omega) (by omega)
        rw [if_pos c, i64 (x := (s + P) * (s + P)) (by omega) (by omega)]
        by_cases c2 : (s + P) * (s + P) ≤ a
        · rw [if_pos c2]
          exact ih (s + P) (by omega) c c2 (by rw [show s + P + P = s + P * 2 by omega]; exact hu)
        · rw [if_neg c2]
          exact ih s s0 s1 hl (by omega)
      · rw [if_neg c]
        have hq : 3037000500 * 3037000500 ≤ (s + P) * (s + P) := Int.mul_le_mul (by omega) (by omega) (by omega) (by omega)
        exact ih s s0 s1 hl (by omega)
theorem rsqrt_F {a : Int} (h0 : 0 ≤ a) (h1 : a < 9223372036854775808) (hN : 100 ≤ N) : ∃ r : Int, Rc.rsqrt.F N a = some r ∧ Root r a := by
  obtain ⟨r, e, g⟩ := rsqrt_loop (N := N) h0 h1 N 32 0 (by omega) (by omega) (by omega) (by omega) (by
    have : (2 : Int) ^ 32 = 4294967296 := by decide
    rw [this]; omega) (by omega)
  refine ⟨r, ?_, g⟩
  unfold Rc.rsqrt.F
  rw [show (((32 : Nat) : Int) - 1) = 31 from rfl] at e
  rw [e, obind_of]
end
end Go.Pl
/-
  Layer 20: pulses are filled by both books alike.
  Conditions: none.
-/
namespace Go.Pl
open Go.Eng Go.Proofs
theorem down_val {a b : Int} (hb : 0 < b) : (if a.tmod b < 0 then a.tdiv b - 1 else a.tdiv b) = a / b := by
  by_cases h : 0 ≤ a
  · rw [if_neg (by rw [Int.tmod_eq_emod_of_nonneg h]; have := Int.emod_nonneg a (show b ≠ 0 by omega); omega), Int.tdiv_eq_ediv_of_nonneg h]
  · obtain ⟨c, rfl⟩ : ∃ c, a = -c := ⟨-a, by omega⟩
    have hc : 0 ≤ c := by omega
    have h1 := Int.emod_nonneg c (show b ≠ 0 by omega)
    have h2 := Int.emod_lt_of_pos c hb
    have h3 := Int.mul_ediv_add_emod c b
    rw [Int.neg_tmod, Int.neg_tdiv, Int.tmod_eq_emod_of_nonneg hc, Int.tdiv_eq_ediv_of_nonneg hc]
    by_cases d : c % b = 0
    · rw [d, if_neg (by decide)]
      have e : -c = b * -(c / b) := by rw [Int.mul_neg]; omega
      rw [e, Int.mul_ediv_cancel_left _ (by omega)]
    · rw [if_pos (by omega)]
      have e1 : b * (-(c / b) - 1) = -(b * (c / b)) - b := by grind
      have e : -c = (b - c % b) + b * (-(c / b) - 1) := by omega
      have hz : (b - c % b) / b = 0 := Int.ediv_eq_zero_of_lt (by omega) (by omega)
      rw [e, Int.add_mul_ediv_left _ _ (by omega), hz]
      omega
section
variable {N : Nat}
theorem sdown_F {a b : Int} (hb : 0 < b) (h0 : -4611686018427387904 ≤ a) (h1 : a ≤ 4611686018427387904) : Rc.sdown.F N a b = some (a / b) := by
  unfold Rc.sdown.F
  have hv := down_val (a := a) hb
  have hq1 : -4611686018427387904 ≤ a.tdiv b ∧ a.tdiv b ≤ 4611686018427387904 := by
    by_cases h : 0 ≤ a
    · rw [Int.tdiv_eq_ediv_of_nonneg h]
      have := Int.ediv_le_self b h
      have := Int.ediv_nonneg h (show 0 ≤ b by omega)
      omega
    · obtain ⟨c, rfl⟩ : ∃ c, a = -c := ⟨-a, by omega⟩
      rw [Int.neg_tdiv, Int.tdiv_eq_ediv_of_nonneg (by omega)]
      have := Int.ediv_le_self b (show 0 ≤ c by omega)
      have := Int.ediv_nonneg (show 0 ≤ c by omega) (show 0 ≤ b by omega)
      omega
  simp only [br_dec]
  rw [chk_pos (by omega), chk_pos (by omega), i64 (x := a.tdiv b) (by omega) (by omega), i64 (x := a.tdiv b - 1) (by omega) (by omega), ← hv]
  split <;> rfl
theorem rdown_F {a b : Int} (hb : 0 < b) (h0 : -4611686018427387904 ≤ a) (h1 : a ≤ 4611686018427387904) : Rc.rdown.F N a b = some (a / b) := sdown_F (N := N) hb h0 h1
end
end Go.Pl
/-
  Layer 20's statements stand here in the place of layer 17's.
  Conditions: none.
-/
/-
  Layer 17: how many vectors there are: the program's rows and tables, and its plain twin's, are one.
  Conditions: none.
-/
namespace Go.Pl
open Go.Eng Go.Proofs
set_option maxRecDepth 100000
theorem chkN_same {Y : Type} (x : Nat) (k : Option Y) : chkN x x k = k := by simp [chkN]
theorem chkR_same {Y : Type} (x : List (List Int)) (k : Option Y) : chkR x x k = k := by simp [chkR]
def cstep (f : Nat → Int) : Nat → Int
  | 0 => 1
  | k + 1 => min (f (k + 1) + cstep f k + f k) 4294967296
def cnt : Nat → Nat → Int
  | 0 => fun k => if k = 0 then 1 else 0
  | n + 1 => cstep (cnt n)
def Small (f : Nat → Int) : Prop := ∀ i, 0 ≤ f i ∧ f i ≤ 4294967296
theorem cstep_small {f : Nat → Int} (h : Small f) : Small (cstep f)
  | 0 => by simp only [cstep]; omega
  | k + 1 => by
    have := cstep_small h k
    have := h k
    have := h (k + 1)
    simp only [cstep]
    omega
theorem cnt_small : ∀ n, Small (cnt n)
  | 0 => fun k => by simp only [cnt]; split <;> omega
  | n + 1 => cstep_small (cnt_small n)
theorem cnt_succ (n k : Nat) : cnt (n + 1) (k + 1) = min (cnt n (k + 1) + cnt (n + 1) k + cnt n k) 4294967296 := rfl
theorem cnt_zero (n : Nat) : cnt n 0 = 1 := by cases n <;> rfl
def tabL (f : Nat → Int) (k : Nat) : List Int := (List.range (k + 1)).map f
theorem tabL_len (f : Nat → Int) (k : Nat) : (tabL f k).length = k + 1 := by simp [tabL]
theorem tabL_get (f : Nat → Int) {k i : Nat} (h : i ≤ k) : (tabL f k).getD i 0 = f i := by
  simp [tabL, List.getD_eq_getElem?_getD, List.getElem?_map, List.getElem?_range, show i < k + 1 by omega]
theorem tabL_ext {f : Nat → Int} {k : Nat} {l : List Int} (hl : l.length = k + 1) (h : ∀ i, i ≤ k → l.getD i 0 = f i) : l = tabL f k := by
  apply List.ext_getElem?
  intro i
  rcases Nat.lt_or_ge i (k + 1) with c | c
  · have h1 := h i (by omega)
    have h2 := tabL_get f (k := k) (i := i) (by omega)
    rw [List.getD_eq_getElem?_getD, List.getElem?_eq_getElem (by omega)] at h1
    rw [List.getD_eq_getElem?_getD, List.getElem?_eq_getElem (by rw [tabL_len]; omega)] at h2
    rw [List.getElem?_eq_getElem (by omega), List.getElem?_eq_getElem (by rw [tabL_len]; omega)]
    simp only [Option.getD_some] at h1 h2
    rw [h1, h2]
  · rw [List.getElem?_eq_none (by omega), List.getElem?_eq_none (by rw [tabL_len]; omega)]
theorem getD_set (l : List Int) (j : Nat) (v : Int) (i : Nat) : (l.set j v).getD i 0 = if i = j ∧ j < l.length then v else l.getD i 0 := by
  rw [List.getD_eq_getElem?_getD, List.getElem?_set, List.getD_eq_getElem?_getD]
  by_cases h : j = i
  · subst h
    rw [if_pos rfl]
    by_cases c : j < l.length
    · rw [if_pos c, if_pos ⟨rfl, c⟩]; rfl
    · rw [if_neg c, if_neg (fun h => c h.2), List.getElem?_eq_none (by omega)]
  · rw [if_neg h, if_neg (fun hh => h hh.1.symm)]
theorem start_row (k : Nat) : (List.replicate (k + 1) (0 : Int)).set 0 1 = tabL (cnt 0) k := by
  refine tabL_ext (by simp) fun i hi => ?_
  rw [getD_set]
  simp only [List.length_replicate, cnt]
  by_cases c : i = 0
  · rw [if_pos ⟨c, by omega⟩, if_pos c]
  · rw [if_neg (fun h => c h.1), if_neg c]
    simp [List.getD_eq_getElem?_getD, List.getElem?_replicate]
    split <;> rfl
section
variable {N : Nat}
theorem prow_in {f : Nat → Int} (hf : Small f) {k : Nat} (hk : k ≤ 1000) : ∀ (nn j : Nat) (l : List Int), 1 ≤ j → j ≤ k + 1 → l.length = k + 1 → (∀ i, i < j → l.getD i 0 = cstep f i) → (∀ i, j ≤ i → i ≤ k → l.getD i 0 = f i) → k + 1 - j < nn →
    Rc.prow.loop7 N nn k (f (j - 1)) j l = some (tabL (cstep f) k)
  | 0, j, l, _, _, _, _, _, h => by omega
  | nn + 1, j, l, j1, j2, hl, ha, hb, h => by
    unfold Rc.prow.loop7
    simp only [br_dec, chkI_same]
    by_cases c : j ≤ k
    · have h1 := hb j (Nat.le_refl _) c
      have h2 := ha (j - 1) (by omega)
      have s1 := hf j
      have s2 := cstep_small hf (j - 1)
      have s3 := hf (j - 1)
      have e1 : IntKind.i64.wrap ((j : Int) - 1) = ((j - 1 : Nat) : Int) := by rw [i64 (by omega) (by omega)]; omega
      rw [if_pos (by omega), chk_pos (by omega), chk_pos (by omega), e1, chk_pos (by omega), chk_pos (by omega), Int.toNat_natCast, Int.toNat_natCast, h1, h2]
      rw [i64 (x := f j + cstep f (j - 1)) (by omega) (by omega), i64 (x := f j + cstep f (j - 1) + f (j - 1)) (by omega) (by omega), i64 (x := (j : Int) + 1) (by omega) (by omega)]
      have hv : (if (4294967296 : Int) < f j + cstep f (j - 1) + f (j - 1) then 4294967296 else f j + cstep f (j - 1) + f (j - 1)) = cstep f j := by
        obtain ⟨m, rfl⟩ : ∃ m, j = m + 1 := ⟨j - 1, by omega⟩
        simp only [cstep, Nat.add_sub_cancel]
        split <;> omega
      rw [hv]
      have ih := prow_in hf hk nn (j + 1) (l.set j (cstep f j)) (by omega) (by omega) (by rw [List.length_set]; exact hl) (fun i hi => by
        rw [getD_set]
        by_cases e : i = j
        · rw [if_pos ⟨e, by omega⟩, e]
        · rw [if_neg (fun h => e h.1)]; exact ha i (by omega)) (fun i hi hi2 => by
        rw [getD_set, if_neg (fun h => by omega)]; exact hb i (by omega) hi2) (by omega)
      exact ih
    · rw [if_neg (by omega)]
      obtain rfl : j = k + 1 := by omega
      exact congrArg some (tabL_ext hl fun i hi => ha i (by omega))
theorem prow_out {n k : Nat} (hk : k ≤ 1000) (hN : k + 2 ≤ N) : ∀ (nn i : Nat), i ≤ n → n - i < nn → n < 1000 → Rc.prow.loop4 N nn k n i (tabL (cnt i) k) = some (tabL (cnt n) k)
  | 0, i, _, h, _ => by omega
  | nn + 1, i, hi, h, hn => by
    unfold Rc.prow.loop4
    simp only [br_dec, chkI_same]
    by_cases c : i < n
    · have := prow_in (N := N) (cnt_small i) hk N 1 (tabL (cnt i) k) (by omega) (by omega) (tabL_len _ _) (fun m hm => by
        obtain rfl : m = 0 := by omega
        rw [tabL_get _ (by omega), cnt_zero]; rfl) (fun m _ hm => tabL_get _ hm) (by omega)
      rw [show cnt i (1 - 1) = 1 from cnt_zero i, show ((1 : Nat) : Int) = 1 from rfl] at this
      rw [if_pos (by omega), this, obind_of, i64 (by omega) (by omega)]
      exact prow_out hk hN nn (i + 1) (by omega) (by omega) hn
    · rw [if_neg (by omega)]
      obtain rfl : i = n := by omega
      rfl
theorem prow_F {n k : Nat} (hk : k ≤ 1000) (hn : n < 1000) (hN : 3000 ≤ N) : Rc.prow.F N n k = some (tabL (cnt n) k) := by
  unfold Rc.prow.F
  rw [i64 (x := (k : Int) + 1) (by omega) (by omega), chk_pos (by omega), show ((k : Int) + 1).toNat = k + 1 by omega, chk_pos (by simp), show Int.toNat (0 : Int) = 0 from rfl, start_row]
  have := prow_out (N := N) (n := n) hk (by omega) N 0 (by omega) (by omega) hn
  rw [show ((0 : Nat) : Int) = 0 from rfl] at this
  rw [this, obind_of]
theorem qcount_in {f : Nat → Int} (hf : Small f) {k : Nat} (hk : k ≤ 1000) : ∀ (nn j : Nat) (l : List Int), 1 ≤ j → j ≤ k + 1 → l.length = k + 1 → (∀ i, i < j → l.getD i 0 = cstep f i) → k + 1 - j < nn →
    Rc.qcount.loop11 N nn k (tabL f k) j l = some (tabL (cstep f) k)
  | 0, j, l, _, _, _, _, h => by omega
  | nn + 1, j, l, j1, j2, hl, ha, h => by
    unfold Rc.qcount.loop11
    simp only [br_dec, chkI_same, chkL_same]
    by_cases c : j ≤ k
    · have h2 := ha (j - 1) (by omega)
      have s1 := hf j
      have s2 := cstep_small hf (j - 1)
      have s3 := hf (j - 1)
      have e1 : IntKind.i64.wrap ((j : Int) - 1) = ((j - 1 : Nat) : Int) := by rw [i64 (by omega) (by omega)]; omega
      have tl := tabL_len f k
      rw [if_pos (by omega), chk_pos (by omega), e1, chk_pos (by omega), chk_pos (by omega), chk_pos (by omega), Int.toNat_natCast, Int.toNat_natCast, h2, tabL_get f c, tabL_get f (i := j - 1) (by omega)]
      rw [i64 (x := f j + cstep f (j - 1)) (by omega) (by omega), i64 (x := f j + cstep f (j - 1) + f (j - 1)) (by omega) (by omega), i64 (x := (j : Int) + 1) (by omega) (by omega)]
      rw [chk_pos (by rw [List.length_set]; omega), getD_set, if_pos (show j = j ∧ j < l.length from ⟨rfl, by omega⟩)]
      have hc : cstep f j = min (f j + cstep f (j - 1) + f (j - 1)) 4294967296 := by
        obtain ⟨m, rfl⟩ : ∃ m, j = m + 1 := ⟨j - 1, by omega⟩
        rfl
      by_cases c2 : f j + cstep f (j - 1) + f (j - 1) > 4294967296
      · rw [if_pos c2, chk_pos (by rw [List.length_set]; omega), List.set_set]
        exact qcount_in hf hk nn (j + 1) _ (by omega) (by omega) (by rw [List.length_set]; exact hl) (fun i hi => by
          rw [getD_set]
          by_cases e : i = j
          · rw [if_pos ⟨e, by omega⟩, e, hc]; omega
          · rw [if_neg (fun h => e h.1)]; exact ha i (by omega)) (by omega)
      · rw [if_neg c2]
        exact qcount_in hf hk nn (j + 1) _ (by omega) (by omega) (by rw [List.length_set]; exact hl) (fun i hi => by
          rw [getD_set]
          by_cases e : i = j
          · rw [if_pos ⟨e, by omega⟩, e, hc]; omega
          · rw [if_neg (fun h => e h.1)]; exact ha i (by omega)) (by omega)
    · rw [if_neg (by omega)]
      obtain rfl : j = k + 1 := by omega
      exact congrArg some (tabL_ext hl fun i hi => ha i (by omega))
theorem qcount_out {n k : Nat} (hk : k ≤ 1000) (hN : k + 2 ≤ N) : ∀ (nn i : Nat), i ≤ n → n - i < nn → n < 1000 → Rc.qcount.loop6 N nn n k i (tabL (cnt i) k) = some (tabL (cnt n) k)
  | 0, i, _, h, _ => by omega
  | nn + 1, i, hi, h, hn => by
    unfold Rc.qcount.loop6
    simp only [br_dec, chkI_same]
    by_cases c : i < n
    · have := qcount_in (N := N) (cnt_small i) hk N 1 (tabL (cnt 0) k) (by omega) (by omega) (tabL_len _ _) (fun m hm => by
        obtain rfl : m = 0 := by omega
        rw [tabL_get _ (by omega)]; rfl) (by omega)
      rw [show ((1 : Nat) : Int) = 1 from rfl] at this
      rw [if_pos (by omega), i64 (x := (k : Int) + 1) (by omega) (by omega), chk_pos (by omega), show ((k : Int) + 1).toNat = k + 1 by omega, chk_pos (by simp), show Int.toNat (0 : Int) = 0 from rfl, start_row, this, obind_of, i64 (by omega) (by omega)]
      exact qcount_out hk hN nn (i + 1) (by omega) (by omega) hn
    · rw [if_neg (by omega)]
      obtain rfl : i = n := by omega
      rfl
def cntA (n k : Int) : Int := if 1 ≤ n ∧ n ≤ 16 ∧ 0 ≤ k ∧ k ≤ 64 then cnt n.toNat k.toNat else 0
theorem cntA_range (n k : Int) : 0 ≤ cntA n k ∧ cntA n k ≤ 4294967296 := by
  unfold cntA
  split
  · exact cnt_small _ _
  · omega
theorem qcount_F (n k : Int) (hN : 3000 ≤ N) : Rc.qcount.F N n k = some (cntA n k) := by
  unfold Rc.qcount.F cntA
  simp only [br_dec]
  by_cases c1 : n < 1
  · rw [if_pos c1, if_neg (by omega)]
  by_cases c2 : n > 16
  · rw [if_neg c1, if_pos c2, if_neg (by omega)]
  by_cases c3 : k < 0
  · rw [if_neg c1, if_neg c2, if_pos c3, if_neg (by omega)]
  by_cases c4 : k > 64
  · rw [if_neg c1, if_neg c2, if_neg c3, if_pos c4, if_neg (by omega)]
  obtain ⟨m, rfl⟩ := Int.eq_ofNat_of_zero_le (show 0 ≤ n by omega)
  obtain ⟨j, rfl⟩ := Int.eq_ofNat_of_zero_le (show 0 ≤ k by omega)
  rw [if_neg c1, if_neg c2, if_neg c3, if_neg c4, if_pos (by omega), i64 (x := (j : Int) + 1) (by omega) (by omega), chk_pos (by omega), show ((j : Int) + 1).toNat = j + 1 by omega, chk_pos (by simp), show Int.toNat (0 : Int) = 0 from rfl, start_row]
  have := qcount_out (N := N) (n := m) (k := j) (by omega) (by omega) N 0 (by omega) (by omega) (by omega)
  rw [show ((0 : Nat) : Int) = 0 from rfl] at this
  rw [this, obind_of, chk_pos (by rw [tabL_len]; omega), Int.toNat_natCast, Int.toNat_natCast, tabL_get _ (Nat.le_refl _)]
theorem pmay_F (n : Int) : Rc.pmay.F N n = some (decide (1 ≤ n ∧ n ≤ 16)) := by
  unfold Rc.pmay.F
  rw [br_dec]
  by_cases c : n ≥ 1
  · rw [if_pos c]
    congr 1
    by_cases d : n ≤ 16
    · rw [decide_eq_true d, decide_eq_true ⟨c, d⟩]
    · rw [decide_eq_false d, decide_eq_false fun h => d h.2]
  · rw [if_neg c, decide_eq_false fun h => c h.1]
theorem pcount_F (n k : Int) (hN : 3000 ≤ N) : Rc.pcount.F N n k = some (cntA n k) := by
  unfold Rc.pcount.F cntA
  rw [pmay_F, obind_of]
  simp only [br_not_dec, br_dec]
  by_cases c1 : ¬ (1 ≤ n ∧ n ≤ 16)
  · rw [if_neg c1, if_neg (by omega)]
  have c1 : 1 ≤ n ∧ n ≤ 16 := by omega
  by_cases c3 : k < 0
  · rw [if_pos c1, if_pos c3, if_neg (by omega)]
  by_cases c4 : k > 64
  · rw [if_pos c1, if_neg c3, if_pos c4, if_neg (by omega)]
  obtain ⟨m, rfl⟩ := Int.eq_ofNat_of_zero_le (show 0 ≤ n by omega)
  obtain ⟨j, rfl⟩ := Int.eq_ofNat_of_zero_le (show 0 ≤ k by omega)
  rw [if_pos c1, if_neg c3, if_neg c4, if_pos (by omega), prow_F (by omega) (by omega) hN, obind_of, chk_pos (by rw [tabL_len]; omega), Int.toNat_natCast, Int.toNat_natCast, tabL_get _ (Nat.le_refl _)]
def mostT (n : Int) : Int := if 1 ≤ n ∧ n ≤ 16 then [(64 : Int), 64, 64, 64, 64, 64, 53, 36, 27, 22, 18, 16, 15, 13, 12, 12].getD (n - 1).toNat 0 else 0
theorem mostT_tab : ∀ i : Fin 16, 12 ≤ [(64 : Int), 64, 64, 64, 64, 64, 53, 36, 27, 22, 18, 16, 15, 13, 12, 12].getD i.val 0 ∧ [(64 : Int), 64, 64, 64, 64, 64, 53, 36, 27, 22, 18, 16, 15, 13, 12, 12].getD i.val 0 ≤ 64 := by decide +kernel
theorem mostT_range (n : Int) : 0 ≤ mostT n ∧ mostT n ≤ 64 := by
  unfold mostT
  split
  · have := mostT_tab ⟨(n - 1).toNat, by omega⟩; simp only at this; omega
  · omega
theorem qmost_F (n : Int) : Rc.qmost.F N n = some (mostT n) := by
  unfold Rc.qmost.F mostT
  simp only [br_dec]
  by_cases c1 : n < 1
  · rw [if_pos c1, if_neg (by omega)]
  by_cases c2 : n > 16
  · rw [if_neg c1, if_pos c2, if_neg (by omega)]
  rw [if_neg c1, if_neg c2, if_pos (by omega), i64 (by omega) (by omega), chk_pos (by simp only [List.length_cons, List.length_nil]; omega)]
def nextR : Int → Int → List Int → List Int
  | _, _, [] => []
  | a, b, x :: r => min (x + a + b) 4294967296 :: nextR (min (x + a + b) 4294967296) x r
def rowC : Nat → List Int
  | 0 => 1 :: List.replicate 64 0
  | n + 1 => match rowC n with
    | [] => []
    | x :: r => 1 :: nextR 1 x r
theorem nextR_len : ∀ (a b : Int) (l : List Int), (nextR a b l).length = l.length
  | _, _, [] => rfl
  | a, b, x :: r => by simp only [nextR, List.length_cons, nextR_len _ _ r]
theorem nextR_get {f : Nat → Int} : ∀ (l : List Int) (j : Nat), (∀ i, i < l.length → l.getD i 0 = f (j + 1 + i)) → ∀ i, i < l.length → (nextR (cstep f j) (f j) l).getD i 0 = cstep f (j + 1 + i)
  | [], j, _, i, h => by simp at h
  | x :: r, j, h, i, hi => by
    have hx : x = f (j + 1) := by have := h 0 (by simp); simpa using this
    have hv : min (x + cstep f j + f j) 4294967296 = cstep f (j + 1) := by rw [hx]; rfl
    simp only [nextR, hv]
    cases i with
    | zero => rfl
    | succ i =>
      have := nextR_get (f := f) r (j + 1) (fun m hm => by
        have := h (m + 1) (by simp; omega)
        rw [show j + 1 + (m + 1) = j + 1 + 1 + m by omega] at this
        simpa using this) i (by simpa using hi)
      rw [hx, show j + 1 + (i + 1) = j + 1 + 1 + i by omega]
      simpa using this
theorem row0 : ∀ i : Fin 65, (rowC 0).getD i.val 0 = cnt 0 i.val := by decide +kernel
theorem rowC_get : ∀ n, (rowC n).length = 65 ∧ ∀ i, i < 65 → (rowC n).getD i 0 = cnt n i
  | 0 => ⟨by decide +kernel, fun i hi => row0 ⟨i, hi⟩⟩
  | n + 1 => by
    obtain ⟨h1, h2⟩ := rowC_get n
    cases hr : rowC n with
    | nil => rw [hr] at h1; simp at h1
    | cons x r =>
      rw [hr] at h1 h2
      have hx : x = cnt n 0 := by have := h2 0 (by omega); simpa using this
      simp only [rowC, hr]
      refine ⟨by simp only [List.length_cons, nextR_len] at h1 ⊢; exact h1, fun i hi => ?_⟩
      cases i with
      | zero => rfl
      | succ i =>
        have := nextR_get (f := cnt n) r 0 (fun m hm => by
          have := h2 (m + 1) (by simp only [List.length_cons] at h1; omega)
          rw [show 0 + 1 + m = m + 1 by omega]
          simpa using this) i (by simp only [List.length_cons] at h1; omega)
        rw [← hx, show 0 + 1 + i = i + 1 by omega] at this
        show (nextR 1 x r).getD i 0 = cnt (n + 1) (i + 1)
        exact this
theorem rowC_tab (n : Nat) : tabL (cnt n) 64 = rowC n := by
  obtain ⟨h1, h2⟩ := rowC_get n
  exact (tabL_ext h1 fun i hi => h2 i (by omega)).symm
def topOf (l : List Int) : Nat → Nat
  | 0 => 0
  | k + 1 => if l.getD (k + 1) 0 ≥ 4294967296 then topOf l k else k + 1
theorem pmost_loop {l : List Int} (hl : l.length = 65) (h0 : l.getD 0 0 < 4294967296) : ∀ (nn k : Nat), k ≤ 64 → k < nn → Rc.pmost.loop5 N nn l k = some ((topOf l k : Nat) : Int)
  | 0, k, _, h => by omega
  | nn + 1, k, hk, h => by
    unfold Rc.pmost.loop5
    simp only [br_dec, chkL_same]
    rw [chk_pos (by omega), Int.toNat_natCast]
    cases k with
    | zero => rw [if_neg (by omega)]; rfl
    | succ k =>
      simp only [topOf]
      by_cases c : l.getD (k + 1) 0 ≥ 4294967296
      · rw [if_pos c, if_pos c, i64 (by omega) (by omega), show ((k + 1 : Nat) : Int) - 1 = (k : Int) by omega]
        exact pmost_loop hl h0 nn k (by omega) (by omega)
      · rw [if_neg c, if_neg c]
theorem tops : ∀ i : Fin 16, ((topOf (rowC (i.val + 1)) 64 : Nat) : Int) = mostT ((i.val : Int) + 1) := by decide +kernel
theorem pmost_F (n : Int) (hN : 3000 ≤ N) : Rc.pmost.F N n = some (mostT n) := by
  unfold Rc.pmost.F
  rw [pmay_F, obind_of]
  simp only [br_not_dec]
  by_cases c : 1 ≤ n ∧ n ≤ 16
  · obtain ⟨m, rfl⟩ := Int.eq_ofNat_of_zero_le (show 0 ≤ n by omega)
    have h := prow_F (N := N) (n := m) (k := 64) (by omega) (by omega) hN
    rw [show ((64 : Nat) : Int) = 64 from rfl] at h
    have hl := pmost_loop (N := N) (l := tabL (cnt m) 64) (tabL_len _ _) (by rw [tabL_get _ (by omega), cnt_zero]; omega) N 64 (by omega) (by omega)
    rw [show ((64 : Nat) : Int) = 64 from rfl] at hl
    have ht := tops ⟨m - 1, by omega⟩
    simp only at ht
    rw [show m - 1 + 1 = m by omega, show (((m - 1 : Nat) : Int) + 1) = (m : Int) by omega, ← rowC_tab] at ht
    rw [if_pos c, h, obind_of, hl, obind_of, ht]
  · rw [if_neg c]
    unfold mostT
    rw [if_neg c]
theorem cnt_pos (n : Nat) : ∀ k, 1 ≤ cnt (n + 1) k
  | 0 => by rw [cnt_zero]; omega
  | k + 1 => by
    have := cnt_pos n k
    have := cnt_small n k
    have := cnt_small n (k + 1)
    rw [cnt_succ]; omega
end
end Go.Pl
/-
  Layer 17: vectors in order: places and vectors undo one another. Nothing of the program here.
  Conditions: none.
-/
namespace Go.Pl
open Go.Eng Go.Proofs
theorem un_down {n k : Nat} (h : cnt (n + 1) (k + 1) < 4294967296) : cnt n (k + 1) < 4294967296 ∧ cnt (n + 1) k < 4294967296 ∧ cnt n k < 4294967296 ∧ cnt (n + 1) (k + 1) = cnt n (k + 1) + cnt (n + 1) k + cnt n k := by
  have hs := cnt_succ n k
  have u1 := cnt_small n (k + 1)
  have u2 := cnt_small n k
  have u3 := cnt_small (n + 1) k
  omega
theorem un_k {n : Nat} : ∀ {k : Nat}, cnt (n + 1) k < 4294967296 → ∀ j, j ≤ k → cnt (n + 1) j < 4294967296
  | 0, h, j, hj => by obtain rfl : j = 0 := by omega
                      exact h
  | k + 1, h, j, hj => by
    rcases Nat.lt_or_ge k j with c | c
    · obtain rfl : j = k + 1 := by omega
      exact h
    · exact un_k (un_down h).2.1 j c
theorem un_n {n k : Nat} (h : cnt (n + 1) k < 4294967296) : cnt n k < 4294967296 := by
  cases k with
  | zero => rw [cnt_zero]; decide
  | succ k => exact (un_down h).1
theorem un_nk {n k : Nat} (h : cnt (n + 1) k < 4294967296) {j : Nat} (hj : j ≤ k) : cnt n j < 4294967296 := un_n (un_k h j hj)
def both (n k s : Nat) : Int := if s = 0 then cnt n k else 2 * cnt n (k - s)
def bs (n k : Nat) : Nat → Int
  | 0 => 0
  | s + 1 => bs n k s + both n k s
def sm (n : Nat) : Nat → Int
  | 0 => 0
  | k + 1 => sm n k + cnt n k
theorem both_nonneg (n k s : Nat) : 0 ≤ both n k s := by
  unfold both
  have := cnt_small n k
  have := cnt_small n (k - s)
  split <;> omega
theorem bs_nonneg (n k : Nat) : ∀ s, 0 ≤ bs n k s
  | 0 => Int.le_refl _
  | s + 1 => by have := bs_nonneg n k s; have := both_nonneg n k s; simp only [bs]; omega
theorem bs_mono (n k : Nat) {s t : Nat} (h : s ≤ t) : bs n k s ≤ bs n k t := by
  obtain ⟨d, rfl⟩ : ∃ d, t = s + d := ⟨t - s, by omega⟩
  clear h
  induction d with
  | zero => exact Int.le_refl _
  | succ d ih => have := both_nonneg n k (s + d); show _ ≤ bs n k (s + d) + both n k (s + d); omega
theorem sum_un {n : Nat} : ∀ {k : Nat}, cnt (n + 1) k < 4294967296 → cnt (n + 1) k = cnt n k + 2 * sm n k
  | 0, _ => by rw [cnt_zero, cnt_zero]; rfl
  | k + 1, h => by
    obtain ⟨_, h2, _, h4⟩ := un_down h
    have := sum_un h2
    simp only [sm]
    omega
theorem bs_sm (n k : Nat) : ∀ s, 1 ≤ s → s ≤ k + 1 → bs n k s = cnt n k + 2 * (sm n k - sm n (k + 1 - s))
  | 0, h, _ => by omega
  | 1, _, _ => by
    show 0 + both n k 0 = _
    unfold both
    rw [if_pos rfl, show k + 1 - 1 = k by omega]; omega
  | s + 2, _, h => by
    have ih := bs_sm n k (s + 1) (by omega) (by omega)
    show bs n k (s + 1) + both n k (s + 1) = _
    rw [ih]
    unfold both
    rw [if_neg (by omega), show k + 1 - (s + 1) = k - (s + 1) + 1 by omega, show k + 1 - (s + 2) = k - (s + 1) by omega]
    simp only [sm]
    omega
theorem bs_all {n k : Nat} (h : cnt (n + 1) k < 4294967296) : bs n k (k + 1) = cnt (n + 1) k := by
  rw [bs_sm n k (k + 1) (by omega) (Nat.le_refl _), sum_un h, show k + 1 - (k + 1) = 0 by omega]
  simp only [sm]
  omega
def fnd (n k : Nat) : Nat → Nat → Int → Nat × Int
  | 0, s, i => (s, i)
  | f + 1, s, i => if i ≥ both n k s then fnd n k f (s + 1) (i - both n k s) else (s, i)
def vec : Nat → Nat → Int → List Int
  | 0, _, _ => []
  | n + 1, k, i =>
    if (fnd n k (k + 1) 0 i).1 > 0 ∧ (fnd n k (k + 1) 0 i).2 ≥ cnt n (k - (fnd n k (k + 1) 0 i).1) then
      -((fnd n k (k + 1) 0 i).1 : Int) :: vec n (k - (fnd n k (k + 1) 0 i).1) ((fnd n k (k + 1) 0 i).2 - cnt n (k - (fnd n k (k + 1) 0 i).1))
    else ((fnd n k (k + 1) 0 i).1 : Int) :: vec n (k - (fnd n k (k + 1) 0 i).1) (fnd n k (k + 1) 0 i).2
def sz1 (y : List Int) : Nat := (y.map Int.natAbs).sum
def ix : List Int → Nat → Int
  | [], _ => 0
  | y :: r, k => bs r.length k y.natAbs + (if y < 0 then cnt r.length (k - y.natAbs) else 0) + ix r (k - y.natAbs)
theorem fnd_spec {n k : Nat} : ∀ (f s : Nat) (i : Int), s + f = k + 1 → 0 ≤ i → i + bs n k s < bs n k (k + 1) →
    s ≤ (fnd n k f s i).1 ∧ (fnd n k f s i).1 ≤ k ∧ 0 ≤ (fnd n k f s i).2 ∧ (fnd n k f s i).2 < both n k (fnd n k f s i).1 ∧ (fnd n k f s i).2 + bs n k (fnd n k f s i).1 = i + bs n k s
  | 0, s, i, h, h0, h1 => by
    obtain rfl : s = k + 1 := by omega
    omega
  | f + 1, s, i, h, h0, h1 => by
    simp only [fnd]
    by_cases c : i ≥ both n k s
    · rw [if_pos c]
      have hb : bs n k (s + 1) = bs n k s + both n k s := rfl
      have := fnd_spec (n := n) (k := k) f (s + 1) (i - both n k s) (by omega) (by omega) (by omega)
      omega
    · rw [if_neg c]
      exact ⟨Nat.le_refl _, by omega, h0, by show i < both n k s; omega, rfl⟩
theorem fnd_eq {n k s : Nat} {i r : Int} (hs : s ≤ k) (h0 : 0 ≤ r) (h1 : r < both n k s) (hi : i = bs n k s + r) (hall : i < bs n k (k + 1)) : fnd n k (k + 1) 0 i = (s, r) := by
  have hbn := bs_nonneg n k s
  obtain ⟨_, a1, a2, a3, a4⟩ := fnd_spec (n := n) (k := k) (k + 1) 0 i (by omega) (by omega) (by show i + 0 < _; omega)
  have z : bs n k 0 = 0 := rfl
  generalize fnd n k (k + 1) 0 i = q at a1 a2 a3 a4
  obtain ⟨t, r'⟩ := q
  simp only at a1 a2 a3 a4
  have ht : t = s := by
    rcases Nat.lt_trichotomy t s with c | c | c
    · have := bs_mono n k (show t + 1 ≤ s from c)
      have e : bs n k (t + 1) = bs n k t + both n k t := rfl
      omega
    · exact c
    · have := bs_mono n k (show s + 1 ≤ t from c)
      have e : bs n k (s + 1) = bs n k s + both n k s := rfl
      omega
  subst ht
  have : r' = r := by omega
  rw [this]
theorem vec_spec : ∀ (n k : Nat) (i : Int), 0 ≤ i → i < cnt n k → cnt n k < 4294967296 → (vec n k i).length = n ∧ sz1 (vec n k i) = k ∧ ix (vec n k i) k = i
  | 0, k, i, h0, h1, _ => by
    have hk : k = 0 ∧ i = 0 := by
      simp only [cnt] at h1
      split at h1 <;> omega
    obtain ⟨rfl, rfl⟩ := hk
    exact ⟨rfl, rfl, rfl⟩
  | n + 1, k, i, h0, h1, hu => by
    have hall := bs_all hu
    obtain ⟨_, a1, a2, a3, a4⟩ := fnd_spec (n := n) (k := k) (k + 1) 0 i (by omega) h0 (by show i + 0 < _; omega)
    have z : bs n k 0 = 0 := rfl
    simp only [vec]
    generalize fnd n k (k + 1) 0 i = q at a1 a2 a3 a4 ⊢
    obtain ⟨s, r⟩ := q
    simp only at a1 a2 a3 a4 ⊢
    have hc := cnt_small n (k - s)
    have hun := un_nk hu (show k - s ≤ k by omega)
    by_cases c : s > 0 ∧ r ≥ cnt n (k - s)
    · rw [if_pos c]
      have hb : both n k s = 2 * cnt n (k - s) := by unfold both; rw [if_neg (by omega)]
      obtain ⟨l1, l2, l3⟩ := vec_spec n (k - s) (r - cnt n (k - s)) (by omega) (by omega) hun
      refine ⟨by simp [l1], ?_, ?_⟩
      · have : sz1 (-(s : Int) :: vec n (k - s) (r - cnt n (k - s))) = s + sz1 (vec n (k - s) (r - cnt n (k - s))) := by simp [sz1]
        omega
      · simp only [ix, l1, Int.natAbs_neg, Int.natAbs_natCast]
        rw [if_pos (by omega), l3]
        omega
    · rw [if_neg c]
      have hb : r < cnt n (k - s) := by
        rcases Nat.eq_zero_or_pos s with d | d
        · subst d
          unfold both at a3
          rw [if_pos rfl] at a3
          exact a3
        · rcases Int.lt_or_le r (cnt n (k - s)) with e | e
          · exact e
          · exact absurd ⟨d, e⟩ c
      obtain ⟨l1, l2, l3⟩ := vec_spec n (k - s) r (by omega) hb hun
      refine ⟨by simp [l1], ?_, ?_⟩
      · have : sz1 ((s : Int) :: vec n (k - s) r) = s + sz1 (vec n (k - s) r) := by simp [sz1]
        omega
      · simp only [ix, l1, Int.natAbs_natCast]
        rw [if_neg (by omega), l3]
        omega
theorem ix_spec : ∀ (y : List Int) (k : Nat), sz1 y = k → cnt y.length k < 4294967296 → 0 ≤ ix y k ∧ ix y k < cnt y.length k ∧ vec y.length k (ix y k) = y
  | [], k, h, _ => by
    obtain rfl : k = 0 := by simpa [sz1] using h.symm
    simp [ix, vec, cnt]
  | y :: r, k, h, hu => by
    have hsz : sz1 (y :: r) = y.natAbs + sz1 r := by simp [sz1]
    simp only [List.length_cons] at hu ⊢
    have hun := un_nk hu (show k - y.natAbs ≤ k by omega)
    have hall := bs_all hu
    obtain ⟨i0, i1, i2⟩ := ix_spec r (k - y.natAbs) (by omega) hun
    have hbn := bs_nonneg r.length k y.natAbs
    have hm := bs_mono r.length k (show y.natAbs + 1 ≤ k + 1 by omega)
    have he : bs r.length k (y.natAbs + 1) = bs r.length k y.natAbs + both r.length k y.natAbs := rfl
    by_cases c : y < 0
    · have hb : both r.length k y.natAbs = 2 * cnt r.length (k - y.natAbs) := by unfold both; rw [if_neg (by omega)]
      have hix : ix (y :: r) k = bs r.length k y.natAbs + (cnt r.length (k - y.natAbs) + ix r (k - y.natAbs)) := by simp only [ix, if_pos c]; omega
      have hf := fnd_eq (n := r.length) (k := k) (s := y.natAbs) (i := ix (y :: r) k) (r := cnt r.length (k - y.natAbs) + ix r (k - y.natAbs)) (by omega) (by omega) (by omega) hix (by omega)
      refine ⟨by omega, by omega, ?_⟩
      simp only [vec, hf]
      rw [if_pos ⟨by omega, by omega⟩, show cnt r.length (k - y.natAbs) + ix r (k - y.natAbs) - cnt r.length (k - y.natAbs) = ix r (k - y.natAbs) by omega, i2]
      congr 1
      omega
    · have hix : ix (y :: r) k = bs r.length k y.natAbs + ix r (k - y.natAbs) := by simp only [ix, if_neg c]; omega
      have hb : cnt r.length (k - y.natAbs) ≤ both r.length k y.natAbs := by
        unfold both
        split
        · rename_i e; rw [e]; exact Int.le_refl _
        · have := cnt_small r.length (k - y.natAbs); omega
      have hf := fnd_eq (n := r.length) (k := k) (s := y.natAbs) (i := ix (y :: r) k) (r := ix r (k - y.natAbs)) (by omega) (by omega) (by omega) hix (by omega)
      refine ⟨by omega, by omega, ?_⟩
      simp only [vec, hf]
      rw [if_neg (fun h => by omega), i2]
      congr 1
      omega
theorem sz1_zeros : ∀ n, sz1 (List.replicate n (0 : Int)) = 0
  | 0 => rfl
  | n + 1 => by have := sz1_zeros n; simp only [sz1, List.replicate_succ, List.map_cons, List.sum_cons] at this ⊢; omega
def rk (v : Int) : Int := if v > 0 then 2 * v - 1 else -2 * v
theorem most_tab : ∀ i : Fin 16, (rowC (i.val + 1)).getD (mostT ((i.val : Int) + 1)).toNat 0 < 4294967296 := by decide +kernel
theorem un_most {n k : Nat} (h0 : 1 ≤ n) (h1 : n ≤ 16) (hk : (k : Int) ≤ mostT n) : cnt n k < 4294967296 := by
  have hr := mostT_range n
  have ht := most_tab ⟨n - 1, by omega⟩
  simp only at ht
  rw [show n - 1 + 1 = n by omega, show (((n - 1 : Nat) : Int) + 1) = (n : Int) by omega, (rowC_get n).2 _ (by omega)] at ht
  obtain ⟨m, rfl⟩ : ∃ m, n = m + 1 := ⟨n - 1, by omega⟩
  exact un_k ht k (by omega)
end Go.Pl
/-
  Layer 17: the program's tables, vectors and places, and its plain twin's.
  Conditions: none.
-/
namespace Go.Pl
open Go.Eng Go.Proofs
def tabR (n k : Nat) : List (List Int) := (List.range (n + 1)).map fun m => tabL (cnt m) k
theorem tabR_len (n k : Nat) : (tabR n k).length = n + 1 := by simp [tabR]
theorem tabR_get {n k m : Nat} (h : m ≤ n) : (tabR n k).getD m [] = tabL (cnt m) k := by
  simp [tabR, List.getD_eq_getElem?_getD, List.getElem?_map, List.getElem?_range, show m < n + 1 by omega]
theorem tabR_ext {n k : Nat} {l : List (List Int)} (hl : l.length = n + 1) (h : ∀ m, m ≤ n → l.getD m [] = tabL (cnt m) k) : l = tabR n k := by
  apply List.ext_getElem?
  intro i
  rcases Nat.lt_or_ge i (n + 1) with c | c
  · have h1 := h i (by omega)
    have h2 := tabR_get (k := k) (show i ≤ n by omega)
    rw [List.getD_eq_getElem?_getD, List.getElem?_eq_getElem (by omega)] at h1
    rw [List.getD_eq_getElem?_getD, List.getElem?_eq_getElem (by rw [tabR_len]; omega)] at h2
    rw [List.getElem?_eq_getElem (by omega), List.getElem?_eq_getElem (by rw [tabR_len]; omega)]
    simp only [Option.getD_some] at h1 h2
    rw [h1, h2]
  · rw [List.getElem?_eq_none (by omega), List.getElem?_eq_none (by rw [tabR_len]; omega)]
theorem getR_set (l : List (List Int)) (j : Nat) (v : List Int) (i : Nat) : (l.set j v).getD i [] = if i = j ∧ j < l.length then v else l.getD i [] := by
  rw [List.getD_eq_getElem?_getD, List.getElem?_set, List.getD_eq_getElem?_getD]
  by_cases h : j = i
  · subst h
    rw [if_pos rfl]
    by_cases c : j < l.length
    · rw [if_pos c, if_pos ⟨rfl, c⟩]; rfl
    · rw [if_neg c, if_neg (fun h => c h.2), List.getElem?_eq_none (by omega)]
  · rw [if_neg h, if_neg (fun hh => h hh.1.symm)]
section
variable {N : Nat}
theorem table_in {k i : Nat} (hk : k ≤ 1000) (hi : i < 1000) {R : List (List Int)} (hR : R.getD i [] = tabL (cnt i) k) (hRl : i + 1 < R.length) : ∀ (nn j : Nat) (l : List Int), 1 ≤ j → j ≤ k + 1 → l.length = k + 1 → (∀ m, m < j → l.getD m 0 = cnt (i + 1) m) → k + 1 - j < nn →
    Rc.table.loop8 N nn k ((i + 1 : Nat) : Int) ((i + 1 : Nat) : Int) R j l = some (tabL (cnt (i + 1)) k)
  | 0, j, l, _, _, _, _, h => by omega
  | nn + 1, j, l, j1, j2, hl, ha, h => by
    unfold Rc.table.loop8
    simp only [br_dec, chkI_same, chkL_same, chkN_same, chkR_same]
    by_cases c : j ≤ k
    · have h2 := ha (j - 1) (by omega)
      have s1 := cnt_small i j
      have s2 := cnt_small (i + 1) (j - 1)
      have s3 := cnt_small i (j - 1)
      have e1 : IntKind.i64.wrap ((j : Int) - 1) = ((j - 1 : Nat) : Int) := by rw [i64 (by omega) (by omega)]; omega
      have e2 : IntKind.i64.wrap (((i + 1 : Nat) : Int) - 1) = (i : Int) := by rw [i64 (by omega) (by omega)]; omega
      have tl := tabL_len (cnt i) k
      rw [if_pos (by omega), if_pos (by omega), chk_pos (by omega), if_pos trivial, e2, chk_pos (by omega), Int.toNat_natCast, Int.toNat_natCast, if_neg (by omega), hR, chk_pos (by omega), chk_pos (by omega), if_pos trivial, e1, chk_pos (by omega), chk_pos (by omega), if_neg (by omega), chk_pos (by omega), chk_pos (by omega), Int.toNat_natCast, Int.toNat_natCast, h2, tabL_get _ c, tabL_get _ (i := j - 1) (by omega)]
      rw [i64 (x := cnt i j + cnt (i + 1) (j - 1)) (by omega) (by omega), i64 (x := cnt i j + cnt (i + 1) (j - 1) + cnt i (j - 1)) (by omega) (by omega), i64 (x := (j : Int) + 1) (by omega) (by omega)]
      have hv : (if (4294967296 : Int) < cnt i j + cnt (i + 1) (j - 1) + cnt i (j - 1) then 4294967296 else cnt i j + cnt (i + 1) (j - 1) + cnt i (j - 1)) = cnt (i + 1) j := by
        obtain ⟨m, rfl⟩ : ∃ m, j = m + 1 := ⟨j - 1, by omega⟩
        rw [cnt_succ]
        simp only [Nat.add_sub_cancel]
        split <;> omega
      rw [hv]
      exact table_in hk hi hR hRl nn (j + 1) (l.set j (cnt (i + 1) j)) (by omega) (by omega) (by rw [List.length_set]; exact hl) (fun m hm => by
        rw [getD_set]
        by_cases e : m = j
        · rw [if_pos ⟨e, by omega⟩, e]
        · rw [if_neg (fun h => e h.1)]; exact ha m (by omega)) (by omega)
    · rw [if_neg (by omega)]
      obtain rfl : j = k + 1 := by omega
      exact congrArg some (tabL_ext hl fun i hi => ha i (by omega))
theorem table_out {n k : Nat} (hk : k ≤ 1000) (hn : n < 1000) (hN : 3000 ≤ N) : ∀ (nn i : Nat) (R : List (List Int)), i ≤ n + 1 → n + 1 - i < nn → R.length = n + 1 → (∀ m, m < i → R.getD m [] = tabL (cnt m) k) →
    Rc.table.loop3 N nn k ((n + 1 : Nat) : Int) i R = some (tabR n k)
  | 0, i, R, _, h, _, _ => by omega
  | nn + 1, i, R, hi, h, hl, ha => by
    unfold Rc.table.loop3
    simp only [br_dec, chkI_same]
    by_cases c : i < n + 1
    · rw [if_pos (by omega), i64 (x := (k : Int) + 1) (by omega) (by omega), chk_pos (by omega), chk_pos (by omega), chk_pos (by omega), if_pos trivial, show ((k : Int) + 1).toNat = k + 1 by omega, chk_pos (by simp), show Int.toNat (0 : Int) = 0 from rfl, start_row, Int.toNat_natCast, Int.toNat_natCast]
      have hin : Rc.table.loop8 N N k (i : Int) (i : Int) R 1 (tabL (cnt 0) k) = some (tabL (cnt i) k) := by
        obtain ⟨M, rfl⟩ : ∃ M, N = M + 1 := ⟨N - 1, by omega⟩
        cases i with
        | zero =>
          unfold Rc.table.loop8
          simp only [br_dec, chkN_same, chkR_same]
          by_cases c : (1 : Int) ≤ k
          · rw [if_pos c, if_neg (by omega)]
          · rw [if_neg c]
        | succ i =>
          have := table_in (N := M + 1) hk (i := i) (by omega) (R := R) (ha i (by omega)) (by omega) (M + 1) 1 (tabL (cnt 0) k) (by omega) (by omega) (tabL_len _ _) (fun m hm => by
            obtain rfl : m = 0 := by omega
            rw [tabL_get _ (by omega)]; rfl) (by omega)
          exact this
      rw [hin, obind_of, i64 (by omega) (by omega)]
      exact table_out hk hn hN nn (i + 1) _ (by omega) (by omega) (by rw [List.length_set]; exact hl) (fun m hm => by
        rw [getR_set]
        by_cases e : m = i
        · rw [if_pos ⟨e, by omega⟩, e]
        · rw [if_neg (fun h => e h.1)]; exact ha m (by omega))
    · rw [if_neg (by omega)]
      exact congrArg some (tabR_ext hl fun m hm => ha m (by omega))
theorem table_F {n k : Nat} (hk : k ≤ 1000) (hn : n < 1000) (hN : 3000 ≤ N) : Rc.table.F N n k = some (tabR n k) := by
  unfold Rc.table.F
  rw [i64 (x := (n : Int) + 1) (by omega) (by omega), chk_pos (by omega), show ((n : Int) + 1).toNat = n + 1 by omega, List.length_replicate]
  have := table_out (N := N) (n := n) (k := k) hk hn hN N 0 (List.replicate (n + 1) []) (by omega) (by omega) (by simp) (fun m hm => by omega)
  rw [show ((0 : Nat) : Int) = 0 from rfl] at this
  rw [this, obind_of]
theorem set_at (pre : List Int) (x v : Int) (r : List Int) : (pre ++ x :: r).set pre.length v = pre ++ v :: r := by
  rw [List.set_append_right _ _ (Nat.le_refl _), Nat.sub_self]; rfl
def VOk (n k i : Int) : Prop := 1 ≤ n ∧ n ≤ 16 ∧ 0 ≤ k ∧ k ≤ mostT n ∧ 0 ≤ i ∧ i < cntA n k
instance (n k i : Int) : Decidable (VOk n k i) := by unfold VOk; exact inferInstance
theorem VOk.un {n k i : Int} (h : VOk n k i) : cntA n k = cnt n.toNat k.toNat ∧ cnt n.toNat k.toNat < 4294967296 ∧ k ≤ 64 := by
  obtain ⟨h1, h2, h3, h4, h5, h6⟩ := h
  have hr := mostT_range n
  refine ⟨by unfold cntA; rw [if_pos (by omega)], un_most (by omega) (by omega) ?_, by omega⟩
  rw [show ((n.toNat : Nat) : Int) = n by omega]; omega
theorem qrest_F {n : Nat} {k : Nat} (hn : n ≤ 16) (hk : k ≤ 64) (hN : 3000 ≤ N) : Rc.qrest.F N n k = some (cnt n k) := by
  unfold Rc.qrest.F
  simp only [br_beq]
  cases n with
  | zero =>
    rw [if_pos (by omega)]
    simp only [cnt]
    by_cases c : k = 0
    · rw [if_pos (by omega), if_pos c]
    · rw [if_neg (by omega), if_neg c]
  | succ n =>
    rw [if_neg (by omega), qcount_F _ _ hN, obind_of]
    unfold cntA
    rw [if_pos (by omega)]
    simp
theorem qfnd {n0 at0 n k : Nat} (hn : at0 + n + 1 = n0) (hn0 : n0 ≤ 16) (hk : k ≤ 64) (hN : 3000 ≤ N) : ∀ (nn f s : Nat) (i : Int), s + f = k + 1 → 0 ≤ i → i + bs n k s < bs n k (k + 1) → i < 1099511627776 → 2 * f < nn →
    Rc.qvector.loop7 N nn n0 k at0 i s 1 =
      some (if (fnd n k f s i).1 > 0 ∧ (fnd n k f s i).2 ≥ cnt n (k - (fnd n k f s i).1) then ((fnd n k f s i).2 - cnt n (k - (fnd n k f s i).1), (((fnd n k f s i).1 : Nat) : Int), -1) else ((fnd n k f s i).2, (((fnd n k f s i).1 : Nat) : Int), 1))
  | 0, f, s, i, _, _, _, _, h => by omega
  | 1, f, s, i, hf, _, h1, _, h => by
    exfalso
    obtain rfl : s = k + 1 := by omega
    omega
  | nn + 2, f, s, i, hf, h0, h1, h2, h => by
    rcases f with _ | f
    · exfalso
      obtain rfl : s = k + 1 := by omega
      omega
    have hsk : s ≤ k := by omega
    have sm := cnt_small n (k - s)
    have e1 : IntKind.i64.wrap (IntKind.i64.wrap ((n0 : Int) - (at0 : Int)) - 1) = (n : Int) := by
      rw [i64 (x := (n0 : Int) - (at0 : Int)) (by omega) (by omega), i64 (by omega) (by omega)]; omega
    have e2 : IntKind.i64.wrap ((k : Int) - (s : Int)) = ((k - s : Nat) : Int) := by rw [i64 (by omega) (by omega)]; omega
    have hb : bs n k (s + 1) = bs n k s + both n k s := rfl
    have ih := fun nn' (h : 2 * f < nn') (hc : i ≥ both n k s) => qfnd (n0 := n0) (at0 := at0) hn hn0 hk hN nn' f (s + 1) (i - both n k s) (by omega) (by have := both_nonneg n k s; omega) (by omega) (by have := both_nonneg n k s; omega) h
    unfold Rc.qvector.loop7
    simp only [br_dec, chkI_same]
    rw [e1, e2, qrest_F (by omega) (by omega) hN, obind_of]
    have fy : i ≥ both n k s → fnd n k (f + 1) s i = fnd n k f (s + 1) (i - both n k s) := fun h => if_pos h
    have fn : ¬ i ≥ both n k s → fnd n k (f + 1) s i = (s, i) := fun h => if_neg h
    by_cases c0 : s = 0
    · subst c0
      have hb0 : both n k 0 = cnt n (k - 0) := rfl
      by_cases c : i < cnt n (k - 0)
      · rw [if_pos c, fn (by omega), if_neg (fun h => by have := h.1; simp at this)]
      · rw [if_neg c, if_neg (by omega), i64 (x := i - cnt n (k - 0)) (by omega) (by omega), i64 (by omega) (by omega), fy (by omega), ← hb0]
        exact ih (nn + 1) (by omega) (by omega)
    · have hbs : both n k s = 2 * cnt n (k - s) := by unfold both; rw [if_neg c0]
      by_cases c : i < cnt n (k - s)
      · rw [if_pos c, fn (by omega), if_neg (fun h => by have := h.2; simp only at this; omega)]
      · rw [if_neg c, if_pos (by omega), if_pos (by omega), i64 (x := i - cnt n (k - s)) (by omega) (by omega)]
        unfold Rc.qvector.loop7
        simp only [br_dec, chkI_same]
        rw [e1, e2, qrest_F (by omega) (by omega) hN, obind_of]
        by_cases c2 : i - cnt n (k - s) < cnt n (k - s)
        · rw [if_pos c2, fn (by omega), if_pos ⟨by show s > 0; omega, by show i ≥ cnt n (k - s); omega⟩]
        · rw [if_neg c2, if_pos (by omega), if_neg (by omega), i64 (x := i - cnt n (k - s) - cnt n (k - s)) (by omega) (by omega), i64 (x := (s : Int) + 1) (by omega) (by omega), fy (by omega), show i - cnt n (k - s) - cnt n (k - s) = i - both n k s by omega]
          exact ih nn (by omega) (by omega)
theorem qvector_loop {n0 : Nat} (hn0 : n0 ≤ 16) (hN : 3000 ≤ N) : ∀ (nn n k : Nat) (i : Int) (pre : List Int), pre.length + n = n0 → k ≤ 64 → 0 ≤ i → i < cnt n k → cnt n k < 4294967296 → n < nn →
    Rc.qvector.loop3 N nn n0 k i pre.length pre = some (pre ++ vec n k i)
  | 0, n, k, i, pre, _, _, _, _, _, h => by omega
  | nn + 1, n, k, i, pre, hp, hk, h0, h1, hu, h => by
    unfold Rc.qvector.loop3
    simp only [br_dec, chkI_same]
    rcases n with _ | n
    · rw [if_neg (by omega)]
      simp [vec]
    · have hall := bs_all hu
      obtain ⟨_, a1, a2, a3, a4⟩ := fnd_spec (n := n) (k := k) (k + 1) 0 i (by omega) h0 (by show i + 0 < _; omega)
      have z : bs n k 0 = 0 := rfl
      have hpf := qfnd (N := N) (n0 := n0) (at0 := pre.length) (n := n) (k := k) (by omega) hn0 hk hN N (k + 1) 0 i (by omega) h0 (by show i + 0 < _; omega) (by omega) (by omega)
      rw [show ((0 : Nat) : Int) = 0 from rfl] at hpf
      rw [if_pos (by omega), hpf, obind_of]
      simp only [vec]
      generalize fnd n k (k + 1) 0 i = q at a1 a2 a3 a4 ⊢
      obtain ⟨s, r⟩ := q
      simp only at a1 a2 a3 a4 ⊢
      have hc := cnt_small n (k - s)
      have hun := un_nk hu (show k - s ≤ k by omega)
      have e2 : IntKind.i64.wrap ((k : Int) - (s : Int)) = ((k - s : Nat) : Int) := by rw [i64 (by omega) (by omega)]; omega
      have next : ∀ (v : Int) (i' : Int), 0 ≤ i' → i' < cnt n (k - s) → Rc.qvector.loop3 N nn n0 ((k - s : Nat) : Int) i' ((pre.length : Int) + 1) (pre ++ [v]) = some (pre ++ v :: vec n (k - s) i') := fun v i' g0 g1 => by
        have := qvector_loop hn0 hN nn n (k - s) i' (pre ++ [v]) (by simp; omega) (by omega) g0 g1 hun (by omega)
        rw [show (((pre ++ [v]).length : Nat) : Int) = (pre.length : Int) + 1 by simp, List.append_assoc] at this
        exact this
      by_cases c : s > 0 ∧ r ≥ cnt n (k - s)
      · have hb : both n k s = 2 * cnt n (k - s) := by unfold both; rw [if_neg (by omega)]
        rw [if_pos c, if_pos c]
        simp only
        rw [chk_pos (by simp; omega), e2, i64 (x := (pre.length : Int) + 1) (by omega) (by omega), i64 (x := -1 * (s : Int)) (by omega) (by omega), show -1 * (s : Int) = -(s : Int) by omega]
        exact next _ _ (by omega) (by omega)
      · rw [if_neg c, if_neg c]
        simp only
        rw [chk_pos (by simp; omega), e2, i64 (x := (pre.length : Int) + 1) (by omega) (by omega), i64 (x := 1 * (s : Int)) (by omega) (by omega), show 1 * (s : Int) = (s : Int) by omega]
        refine next _ _ a2 ?_
        rcases Nat.eq_zero_or_pos s with d | d
        · subst d
          unfold both at a3
          rw [if_pos rfl] at a3
          exact a3
        · rcases Int.lt_or_le r (cnt n (k - s)) with e | e
          · exact e
          · exact absurd ⟨d, e⟩ c
theorem qvector_F {n k i : Int} (hv : VOk n k i) (hN : 3000 ≤ N) : Rc.qvector.F N n k i = some (vec n.toNat k.toNat i) := by
  unfold Rc.qvector.F
  obtain ⟨u1, u2, u3⟩ := hv.un
  obtain ⟨c1, c2, c3, c4, c5, c6⟩ := hv
  obtain ⟨m, rfl⟩ := Int.eq_ofNat_of_zero_le (show 0 ≤ n by omega)
  obtain ⟨j, rfl⟩ := Int.eq_ofNat_of_zero_le (show 0 ≤ k by omega)
  simp only [Int.toNat_natCast] at u1 u2 ⊢
  have hl := qvector_loop (N := N) (n0 := m) (by omega) hN N m j i [] (by simp) (by omega) (by omega) (by omega) u2 (by omega)
  rw [show (([] : List Int).length : Int) = 0 from rfl, List.nil_append] at hl
  rw [hl, obind_of]
end
end Go.Pl
/-
  Layer 17: places of vectors by the program and its twin; the statements PvqNumbers, PvqOrder, PvqFirst.
  Conditions: none.
-/
namespace Go.Pl
open Go.Eng Go.Proofs
set_option maxRecDepth 100000
def psz (v : Int) : Int := if v < -65 ∨ v > 65 then 65 else v.natAbs
theorem psz_range (v : Int) : 0 ≤ psz v ∧ psz v ≤ 65 := by unfold psz; split <;> omega
def psumL : List Int → Int
  | [] => 0
  | x :: r => psz x + psumL r
theorem psum_range : ∀ y : List Int, 0 ≤ psumL y ∧ psumL y ≤ 65 * y.length
  | [] => by simp [psumL]
  | x :: r => by have := psum_range r; have := psz_range x; simp only [psumL, List.length_cons]; omega
theorem sz1_cons (x : Int) (r : List Int) : sz1 (x :: r) = x.natAbs + sz1 r := by simp [sz1]
theorem psum_small : ∀ y : List Int, psumL y ≤ 64 → psumL y = sz1 y ∧ ∀ x ∈ y, x.natAbs ≤ 64
  | [], _ => ⟨rfl, by simp⟩
  | x :: r, h => by
    have h1 := psum_range r
    have h2 := psz_range x
    simp only [psumL] at h
    obtain ⟨i1, i2⟩ := psum_small r (by omega)
    have hx : psz x = x.natAbs ∧ x.natAbs ≤ 64 := by
      unfold psz at h ⊢
      by_cases c : x < -65 ∨ x > 65
      · rw [if_pos c] at h; omega
      · rw [if_neg c] at h ⊢; omega
    refine ⟨by simp only [psumL, sz1_cons]; omega, fun z hz => ?_⟩
    rcases List.mem_cons.1 hz with rfl | hz
    · exact hx.2
    · exact i2 z hz
theorem sz1_small : ∀ y : List Int, sz1 y ≤ 64 → psumL y = sz1 y ∧ ∀ x ∈ y, x.natAbs ≤ 64
  | [], _ => ⟨rfl, by simp⟩
  | x :: r, h => by
    rw [sz1_cons] at h
    obtain ⟨i1, i2⟩ := sz1_small r (by omega)
    refine ⟨?_, fun z hz => ?_⟩
    · simp only [psumL, sz1_cons]
      unfold psz
      rw [if_neg (by omega)]
      omega
    · rcases List.mem_cons.1 hz with rfl | hz
      · omega
      · exact i2 z hz
theorem get_at (pre : List Int) (x : Int) (r : List Int) : (pre ++ x :: r).getD pre.length 0 = x := by simp [List.getD_eq_getElem?_getD]
section
variable {N : Nat}
theorem psize_F (v : Int) : Rc.psize.F N v = some (psz v) := by
  have hc : Rc.clamp.F N v (-65) 65 = some (if v < -65 then -65 else if v > 65 then 65 else v) := by
    unfold Rc.clamp.F
    simp only [br_dec]
    by_cases c1 : v < -65
    · rw [if_neg (by omega), if_pos c1, if_pos c1]
    by_cases c2 : v > 65
    · rw [if_neg (by omega), if_neg c1, if_pos c2, if_neg c1, if_pos c2]
    · rw [if_neg (by omega), if_neg c1, if_neg c2, if_neg c1, if_neg c2]
  unfold Rc.psize.F psz
  rw [hc, obind_of, obind_of]
  by_cases c1 : v < -65
  · rw [if_pos c1, if_pos (Or.inl c1), i64 (by omega) (by omega)]; rfl
  by_cases c2 : v > 65
  · rw [if_neg c1, if_pos c2, if_pos (Or.inr c2), i64 (by omega) (by omega)]; rfl
  · rw [if_neg c1, if_neg c2, if_neg (show ¬ (v < -65 ∨ v > 65) by omega), i64 (x := 0 - v) (by omega) (by omega)]
    refine congrArg some ?_
    show (if 0 - v > v then 0 - v else v : Int) = (v.natAbs : Int)
    by_cases c3 : 0 - v > v
    · rw [if_pos c3]; omega
    · rw [if_neg c3]; omega
theorem psum_loop {y : List Int} (hl : y.length ≤ 16) : ∀ (nn : Nat) (r pre : List Int) (s : Int), y = pre ++ r → r.length < nn → 0 ≤ s → s ≤ 65 * pre.length →
    Rc.pindex.loop5 N nn y.length y s pre.length = some (s + psumL r)
  | 0, r, pre, s, _, h, _, _ => by omega
  | nn + 1, r, pre, s, hy, h, s0, s1 => by
    unfold Rc.pindex.loop5
    simp only [br_dec, chkL_same, chkI_same]
    have hlen : y.length = pre.length + r.length := by rw [hy, List.length_append]
    cases r with
    | nil => rw [if_neg (by simp at hlen; omega)]; simp [psumL]
    | cons x r =>
      simp only [List.length_cons] at hlen h
      have hx := psz_range x
      have hg : y.getD pre.length 0 = x := by rw [hy, get_at]
      rw [if_pos (by omega), chk_pos (by omega), Int.toNat_natCast, hg, psize_F, obind_of, i64 (x := s + psz x) (by omega) (by omega), i64 (x := (pre.length : Int) + 1) (by omega) (by omega)]
      have := psum_loop hl nn r (pre ++ [x]) (s + psz x) (by rw [hy]; simp) (by omega) (by omega) (by simp; omega)
      rw [show (((pre ++ [x]).length : Nat) : Int) = (pre.length : Int) + 1 by simp] at this
      rw [this]
      simp only [psumL]
      congr 1
      omega
theorem pix_in {n k K : Nat} (hkK : k ≤ K) (hK : K ≤ 64) : ∀ (nn d s : Nat) (at0 : Int), s + d ≤ k + 1 → d < nn → 0 ≤ at0 → at0 ≤ 1099511627776 →
    Rc.pindex.loop17 N nn k ((s + d : Nat) : Int) (tabL (cnt n) K) (at0 + bs n k s) s = some (at0 + bs n k (s + d))
  | 0, d, s, at0, _, h, _, _ => by omega
  | nn + 1, d, s, at0, hd, h, a0, a1 => by
    unfold Rc.pindex.loop17
    simp only [br_dec, chkL_same, chkI_same]
    rcases d with _ | d
    · rw [if_neg (by omega)]; rfl
    · have tl := tabL_len (cnt n) K
      have sm := cnt_small n (k - s)
      have hb0 := bs_nonneg n k s
      have hbb : bs n k s ≤ s * 8589934592 := by
        have : ∀ s, bs n k s ≤ s * 8589934592 := by
          intro s
          induction s with
          | zero => simp [bs]
          | succ s ih =>
            have : both n k s ≤ 8589934592 := by
              unfold both
              have := cnt_small n k
              have := cnt_small n (k - s)
              split <;> omega
            show bs n k s + both n k s ≤ _
            omega
        exact this s
      have e2 : IntKind.i64.wrap ((k : Int) - (s : Int)) = ((k - s : Nat) : Int) := by rw [i64 (by omega) (by omega)]; omega
      have ih := pix_in (n := n) hkK hK nn d (s + 1) at0 (by omega) (by omega) a0 a1
      rw [show s + 1 + d = s + (d + 1) by omega] at ih
      have hb : bs n k (s + 1) = bs n k s + both n k s := rfl
      rw [if_pos (by omega), e2, chk_pos (by omega), Int.toNat_natCast, tabL_get _ (by omega), i64 (x := (s : Int) + 1) (by omega) (by omega), i64 (x := at0 + bs n k s + cnt n (k - s)) (by omega) (by omega)]
      by_cases c : s = 0
      · have hbo : both n k s = cnt n (k - s) := by unfold both; rw [if_pos c, c]; rfl
        rw [if_neg (by omega), show at0 + bs n k s + cnt n (k - s) = at0 + bs n k (s + 1) by omega]
        exact ih
      · have hbo : both n k s = 2 * cnt n (k - s) := by unfold both; rw [if_neg c]
        rw [if_pos (by omega), chk_pos (by omega), i64 (x := at0 + bs n k s + cnt n (k - s) + cnt n (k - s)) (by omega) (by omega), show at0 + bs n k s + cnt n (k - s) + cnt n (k - s) = at0 + bs n k (s + 1) by omega]
        exact ih
theorem pix_loop {y : List Int} {K : Nat} (hl : y.length ≤ 16) (hK : K ≤ 64) (hN : 3000 ≤ N) : ∀ (nn : Nat) (r pre : List Int) (k : Nat) (at0 : Int), y = pre ++ r → r.length < nn → sz1 r = k → k ≤ K → cnt r.length k < 4294967296 → (∀ x ∈ r, x.natAbs ≤ 64) → (True → 0 ≤ at0 ∧ at0 ≤ (pre.length : Int) * 4294967296) →
    Rc.pindex.loop13 N nn y.length y y (tabR y.length K) at0 k pre.length = some (at0 + ix r k)
  | 0, r, pre, k, at0, _, h, _, _, _, _, _ => by omega
  | nn + 1, r, pre, k, at0, hy, h, hk, hkK, hu, hs, a01 => by
    obtain ⟨a0, a1⟩ := a01 trivial
    unfold Rc.pindex.loop13
    simp only [br_dec, chkL_same, chkI_same, chkR_same]
    have hlen : y.length = pre.length + r.length := by rw [hy, List.length_append]
    cases r with
    | nil => rw [if_neg (by simp at hlen; omega)]; simp [ix]
    | cons x r =>
      simp only [List.length_cons] at hlen h hu
      rw [sz1_cons] at hk
      have hx := hs x (by simp)
      have hp : psz x = (x.natAbs : Int) := by unfold psz; rw [if_neg (by omega)]
      have hg : y.getD pre.length 0 = x := by rw [hy, get_at]
      have tr := tabR_len y.length K
      have tl := tabL_len (cnt r.length) K
      have e1 : IntKind.i64.wrap (IntKind.i64.wrap ((y.length : Int) - 1) - (pre.length : Int)) = (r.length : Int) := by
        rw [i64 (x := (y.length : Int) - 1) (by omega) (by omega), i64 (by omega) (by omega)]; omega
      have hun := un_nk hu (show k - x.natAbs ≤ k by omega)
      have hall := bs_all hu
      have hbm := bs_mono r.length k (show x.natAbs ≤ k + 1 by omega)
      have hb0 := bs_nonneg r.length k x.natAbs
      have hin := pix_in (N := N) (n := r.length) hkK hK N x.natAbs 0 at0 (by omega) (by omega) a0 (by omega)
      rw [Nat.zero_add, show bs r.length k 0 = 0 from rfl, Int.add_zero, show ((0 : Nat) : Int) = 0 from rfl] at hin
      have e2 : IntKind.i64.wrap ((k : Int) - (x.natAbs : Int)) = ((k - x.natAbs : Nat) : Int) := by rw [i64 (by omega) (by omega)]; omega
      have sm := cnt_small r.length (k - x.natAbs)
      obtain ⟨i0, i1, _⟩ := ix_spec (x :: r) k (by rw [sz1_cons]; exact hk) hu
      obtain ⟨j0, j1, _⟩ := ix_spec r (k - x.natAbs) (by omega) hun
      rw [if_pos (by omega), chk_pos (by omega), e1, chk_pos (by omega), Int.toNat_natCast, Int.toNat_natCast, hg, psize_F, obind_of, tabR_get (by omega), hp, hin, obind_of, obind_of, e2, i64 (x := (pre.length : Int) + 1) (by omega) (by omega)]
      simp only [List.length_cons] at i1
      simp only [ix] at i0 i1 ⊢
      have next := fun (v : Int) (h0 : 0 ≤ v) (h1 : v ≤ at0 + 4294967296) => pix_loop hl hK hN nn r (pre ++ [x]) (k - x.natAbs) v (by rw [hy]; simp) (by omega) (by omega) (by omega) hun (fun z hz => hs z (by simp [hz])) (fun _ => ⟨h0, by simp; omega⟩)
      simp only [List.length_append, List.length_singleton, Int.natCast_add] at next
      by_cases c : x < 0
      · rw [if_pos c] at i0 i1 ⊢
        rw [if_pos c, chk_pos (by omega), Int.toNat_natCast, tabL_get _ (by omega), i64 (x := at0 + bs r.length k x.natAbs + cnt r.length (k - x.natAbs)) (by omega) (by omega)]
        refine (next _ (by omega) (by omega)).trans ?_
        congr 1
        omega
      · rw [if_neg c] at i0 i1 ⊢
        rw [if_neg c]
        refine (next _ (by omega) (by omega)).trans ?_
        congr 1
        omega
theorem pindex_F (y : List Int) (hN : 3000 ≤ N) : Rc.pindex.F N y = some (if 1 ≤ y.length ∧ y.length ≤ 16 ∧ psumL y ≤ mostT y.length then (psumL y, ix y (sz1 y), 0) else (0, 0, 1)) := by
  unfold Rc.pindex.F
  rw [pmay_F, obind_of]
  simp only [br_not_dec, br_dec]
  by_cases c1 : ¬ (1 ≤ (y.length : Int) ∧ (y.length : Int) ≤ 16)
  · rw [if_neg c1, if_neg (fun h => by omega)]
  have c1 : 1 ≤ (y.length : Int) ∧ (y.length : Int) ≤ 16 := by omega
  have h5 := psum_loop (N := N) (y := y) (by omega) N y [] 0 rfl (by omega) (by omega) (by simp)
  rw [show (([] : List Int).length : Int) = 0 from rfl, Int.zero_add] at h5
  rw [if_pos c1, h5, obind_of, pmost_F _ hN, obind_of]
  by_cases c2 : psumL y > mostT y.length
  · rw [if_pos c2, if_neg (fun h => by omega)]
  have hm := mostT_range y.length
  obtain ⟨s1, s2⟩ := psum_small y (by omega)
  have hu := un_most (n := y.length) (k := sz1 y) (by omega) (by omega) (by omega)
  have h13 := pix_loop (N := N) (y := y) (K := sz1 y) (by omega) (by omega) hN N y [] (sz1 y) 0 rfl (by omega) rfl (Nat.le_refl _) hu s2 (fun _ => ⟨by omega, by simp⟩)
  rw [show (([] : List Int).length : Int) = 0 from rfl, Int.zero_add] at h13
  rw [if_neg c2, if_pos ⟨by omega, by omega, by omega⟩, s1, table_F (by omega) (by omega) hN, obind_of, h13, obind_of]
end
end Go.Pl
/-
  Layer 20: pulses are filled by both books alike; the sum of squares is near.
  Conditions: none.
-/
namespace Go.Pl
open Go.Eng Go.Proofs
def ok64 : List Int → Bool
  | [] => true
  | x :: r => decide (-64 ≤ x ∧ x ≤ 64) && ok64 r
def ssq : List Int → Int
  | [] => 0
  | x :: r => x * x + ssq r
theorem ok64_iff : ∀ y : List Int, ok64 y = true ↔ ∀ x ∈ y, -64 ≤ x ∧ x ≤ 64
  | [] => by simp [ok64]
  | x :: r => by simp [ok64, ok64_iff r]
theorem sq_nonneg (x : Int) : 0 ≤ x * x := by
  rcases Int.le_total 0 x with h | h
  · exact Int.mul_nonneg h h
  · have := Int.mul_nonneg (show 0 ≤ -x by omega) (show 0 ≤ -x by omega)
    rwa [Int.neg_mul_neg] at this
theorem sq64 {x : Int} (h0 : -64 ≤ x) (h1 : x ≤ 64) : x * x ≤ 4096 := by
  have h2 : 0 ≤ (64 - x) * (64 + x) := Int.mul_nonneg (by omega) (by omega)
  have h3 : (64 - x) * (64 + x) = 4096 - x * x := by grind
  omega
theorem ssq_nonneg : ∀ y : List Int, 0 ≤ ssq y
  | [] => Int.le_refl _
  | x :: r => by have := sq_nonneg x; have := ssq_nonneg r; simp only [ssq]; omega
theorem ssq_le : ∀ y : List Int, ok64 y = true → ssq y ≤ 4096 * y.length
  | [], _ => by simp [ssq]
  | x :: r, h => by
    simp only [ok64, Bool.and_eq_true, decide_eq_true_eq] at h
    have := sq64 h.1.1 h.1.2
    have := ssq_le r h.2
    simp only [ssq, List.length_cons]; omega
noncomputable def rt (a : Int) : Int := Classical.epsilon fun r => Root r a
theorem rt_of {r a : Int} (h : Root r a) : rt a = r := (Classical.epsilon_spec (p := fun r => Root r a) ⟨r, h⟩).eq h
def fl (size r t : Int) (y : List Int) : List Int := y.map fun v => size * v * t / r
noncomputable def fillV (size : Int) (y : List Int) : List Int := if ssq y = 0 then List.replicate y.length 0 else fl size (rt (1048576 * ssq y)) (rt (1048576 * y.length)) y
def FillOk (y : List Int) (size : Int) : Prop := 1 ≤ y.length ∧ y.length ≤ 16 ∧ 0 ≤ size ∧ size ≤ 33554432 ∧ ok64 y = true
theorem fillV_len (size : Int) (y : List Int) : (fillV size y).length = y.length := by
  unfold fillV fl
  split <;> simp
theorem root_t {t : Int} {n : Nat} (hn : n ≤ 16) (h : Root t (1048576 * n)) : t ≤ 4096 := by
  rcases Int.lt_or_le 4096 t with c | c
  · have := h.l
    have h2 : 4097 * 4097 ≤ t * t := Int.mul_le_mul c c (by omega) (by omega)
    omega
  · exact c
theorem root_r {r s : Int} (hs : 1 ≤ s) (h : Root r (1048576 * s)) : 1024 ≤ r := by
  rcases Int.lt_or_le r 1024 with c | c
  · have h1 := h.u
    have h3 := h.p
    have h2 : (r + 1) * (r + 1) ≤ 1024 * 1024 := Int.mul_le_mul (by omega) (by omega) (by omega) (by omega)
    omega
  · exact c
theorem fill_mul {size v t : Int} (s0 : 0 ≤ size) (s1 : size ≤ 33554432) (v0 : -64 ≤ v) (v1 : v ≤ 64) (t0 : 0 ≤ t) (t1 : t ≤ 4096) :
    (-2147483648 ≤ size * v ∧ size * v ≤ 2147483648) ∧ (-8796093022208 ≤ size * v * t ∧ size * v * t ≤ 8796093022208) := by
  have a1 : size * v ≤ size * 64 := Int.mul_le_mul_of_nonneg_left v1 s0
  have a2 : size * -64 ≤ size * v := Int.mul_le_mul_of_nonneg_left v0 s0
  have b1 : size * v * t ≤ 2147483648 * t := Int.mul_le_mul_of_nonneg_right (by omega) t0
  have b2 : -2147483648 * t ≤ size * v * t := Int.mul_le_mul_of_nonneg_right (by omega) t0
  omega
section
variable {N : Nat}
theorem sfill_loop5 {y ey : List Int} {es : Int} (hl : y.length ≤ 16) : ∀ (nn : Nat) (r pre : List Int) (s : Int), y = pre ++ r → r.length < nn → 0 ≤ s → s ≤ 4096 * pre.length →
    (ok64 r = true → Rc.sfill.loop5 N nn es ey y.length y 0 s pre.length [] = some (.inl (0, s + ssq r, []))) ∧ (ok64 r = false → Rc.sfill.loop5 N nn es ey y.length y 0 s pre.length [] = some (.inr (1, [])))
  | 0, r, pre, s, _, h, _, _ => by omega
  | nn + 1, r, pre, s, hy, h, s0, s1 => by
    unfold Rc.sfill.loop5
    simp only [br_dec, chkL_same, chkI_same]
    have hlen : y.length = pre.length + r.length := by rw [hy, List.length_append]
    cases r with
    | nil => rw [if_neg (by simp at hlen; omega)]; simp [ssq, ok64]
    | cons x r =>
      simp only [List.length_cons] at hlen h
      have hg : y.getD pre.length 0 = x := by rw [hy, get_at]
      rw [if_pos (by omega), chk_pos (by omega), Int.toNat_natCast, hg]
      simp only [ok64, Bool.and_eq_true, decide_eq_true_eq, Bool.and_eq_false_imp]
      by_cases c1 : x < -64
      · rw [if_pos c1]
        exact ⟨fun hh => by omega, fun _ => rfl⟩
      rw [if_neg c1]
      by_cases c2 : x > 64
      · rw [if_pos c2]
        exact ⟨fun hh => by omega, fun _ => rfl⟩
      have hq := sq64 (x := x) (by omega) (by omega)
      have hq0 := sq_nonneg x
      rw [if_neg c2, i64 (x := x * x) (by omega) (by omega), i64 (x := s + x * x) (by omega) (by omega), i64 (x := (pre.length : Int) + 1) (by omega) (by omega)]
      have ih := sfill_loop5 (ey := ey) (es := es) hl nn r (pre ++ [x]) (s + x * x) (by rw [hy]; simp) (by omega) (by omega) (by simp; omega)
      rw [show (((pre ++ [x]).length : Nat) : Int) = (pre.length : Int) + 1 by simp] at ih
      refine ⟨fun hh => ?_, fun hh => ih.2 (hh (by omega))⟩
      rw [ih.1 hh.2]
      simp only [ssq]
      rw [Int.add_assoc]
theorem sfill_loop16 {y : List Int} {size rr t : Int} (hl : y.length ≤ 16) (s0 : 0 ≤ size) (s1 : size ≤ 33554432) (t0 : 0 ≤ t) (t1 : t ≤ 4096) (r0 : 0 < rr) : ∀ (nn : Nat) (r pre A : List Int), y = pre ++ r → A.length = pre.length → r.length < nn → ok64 r = true →
    Rc.sfill.loop16 N nn size rr t y.length y pre.length (A ++ List.replicate r.length 0) = some (A ++ fl size rr t r)
  | 0, r, pre, A, _, _, h, _ => by omega
  | nn + 1, r, pre, A, hy, hA, h, ho => by
    unfold Rc.sfill.loop16
    simp only [br_dec, chkL_same, chkI_same]
    have hlen : y.length = pre.length + r.length := by rw [hy, List.length_append]
    cases r with
    | nil => rw [if_neg (by simp at hlen; omega)]; simp [fl]
    | cons x r =>
      simp only [List.length_cons] at hlen h
      simp only [ok64, Bool.and_eq_true, decide_eq_true_eq] at ho
      have hg : y.getD pre.length 0 = x := by rw [hy, get_at]
      have hm := fill_mul s0 s1 ho.1.1 ho.1.2 t0 t1
      rw [if_pos (by omega), chk_pos (by omega), Int.toNat_natCast, hg, i64 (x := size * x) (by omega) (by omega), i64 (x := size * x * t) (by omega) (by omega), sdown_F r0 (by omega) (by omega), obind_of, chk_pos (by simp; omega), i64 (x := (pre.length : Int) + 1) (by omega) (by omega)]
      have hs : (A ++ List.replicate (r.length + 1) (0 : Int)).set pre.length (size * x * t / rr) = (A ++ [size * x * t / rr]) ++ List.replicate r.length 0 := by
        rw [List.replicate_succ, ← hA, List.set_append_right _ _ (Nat.le_refl _)]
        simp
      rw [List.length_cons, hs]
      have ih := sfill_loop16 hl s0 s1 t0 t1 r0 nn r (pre ++ [x]) (A ++ [size * x * t / rr]) (by rw [hy]; simp) (by simp; omega) (by omega) ho.2
      rw [show (((pre ++ [x]).length : Nat) : Int) = (pre.length : Int) + 1 by simp] at ih
      rw [ih]
      simp [fl]
theorem rfill_loop3 {y : List Int} (hl : y.length ≤ 16) : ∀ (nn : Nat) (r pre : List Int) (s : Int), y = pre ++ r → r.length < nn → 0 ≤ s → s ≤ 4096 * pre.length → ok64 r = true →
    Rc.rfill.loop3 N nn y s pre.length = some (s + ssq r)
  | 0, r, pre, s, _, h, _, _, _ => by omega
  | nn + 1, r, pre, s, hy, h, s0, s1, ho => by
    unfold Rc.rfill.loop3
    simp only [br_dec, chkL_same]
    have hlen : y.length = pre.length + r.length := by rw [hy, List.length_append]
    cases r with
    | nil => rw [if_neg (by simp at hlen; omega)]; simp [ssq]
    | cons x r =>
      simp only [List.length_cons] at hlen h
      simp only [ok64, Bool.and_eq_true, decide_eq_true_eq] at ho
      have hg : y.getD pre.length 0 = x := by rw [hy, get_at]
      have hq := sq64 (x := x) (by omega) (by omega)
      have hq0 := sq_nonneg x
      rw [if_pos (by omega), chk_pos (by omega), chk_pos (by omega), Int.toNat_natCast, hg, i64 (x := x * x) (by omega) (by omega), i64 (x := s + x * x) (by omega) (by omega), i64 (x := (pre.length : Int) + 1) (by omega) (by omega)]
      have ih := rfill_loop3 hl nn r (pre ++ [x]) (s + x * x) (by rw [hy]; simp) (by omega) (by omega) (by simp; omega) ho.2
      rw [show (((pre ++ [x]).length : Nat) : Int) = (pre.length : Int) + 1 by simp] at ih
      rw [ih]
      simp only [ssq]
      rw [Int.add_assoc]
theorem rfill_loop12 {y : List Int} {size rr t : Int} (hl : y.length ≤ 16) (s0 : 0 ≤ size) (s1 : size ≤ 33554432) (t0 : 0 ≤ t) (t1 : t ≤ 4096) (r0 : 0 < rr) : ∀ (nn : Nat) (r pre A : List Int), y = pre ++ r → A.length = pre.length → r.length < nn → ok64 r = true →
    Rc.rfill.loop12 N nn size rr t y pre.length (A ++ List.replicate r.length 0) = some (A ++ fl size rr t r)
  | 0, r, pre, A, _, _, h, _ => by omega
  | nn + 1, r, pre, A, hy, hA, h, ho => by
    unfold Rc.rfill.loop12
    simp only [br_dec, chkL_same, chkI_same]
    have hlen : y.length = pre.length + r.length := by rw [hy, List.length_append]
    cases r with
    | nil => rw [if_neg (by simp at hlen; omega)]; simp [fl]
    | cons x r =>
      simp only [List.length_cons] at hlen h
      simp only [ok64, Bool.and_eq_true, decide_eq_true_eq] at ho
      have hg : y.getD pre.length 0 = x := by rw [hy, get_at]
      have hm := fill_mul s0 s1 ho.1.1 ho.1.2 t0 t1
      rw [if_pos (by omega), chk_pos (by omega), Int.toNat_natCast, hg, i64 (x := size * x) (by omega) (by omega), i64 (x := size * x * t) (by omega) (by omega), rdown_F r0 (by omega) (by omega), obind_of, chk_pos (by simp; omega), i64 (x := (pre.length : Int) + 1) (by omega) (by omega)]
      have hs : (A ++ List.replicate (r.length + 1) (0 : Int)).set pre.length (size * x * t / rr) = (A ++ [size * x * t / rr]) ++ List.replicate r.length 0 := by
        rw [List.replicate_succ, ← hA, List.set_append_right _ _ (Nat.le_refl _)]
        simp
      rw [List.length_cons, hs]
      have ih := rfill_loop12 hl s0 s1 t0 t1 r0 nn r (pre ++ [x]) (A ++ [size * x * t / rr]) (by rw [hy]; simp) (by simp; omega) (by omega) ho.2
      rw [show (((pre ++ [x]).length : Nat) : Int) = (pre.length : Int) + 1 by simp] at ih
      rw [ih]
      simp [fl]
theorem sfill_both (hN : 200 ≤ N) (size : Int) (y : List Int) : (FillOk y size → Rc.sfill.F N size y = some (0, fillV size y)) ∧ (¬ FillOk y size → Rc.sfill.F N size y = some (1, [])) := by
  unfold Rc.sfill.F FillOk
  simp only [br_dec]
  by_cases c1 : (y.length : Int) < 1
  · rw [if_pos c1]; exact ⟨fun h => by omega, fun _ => rfl⟩
  rw [if_neg c1]
  by_cases c2 : (y.length : Int) > 16
  · rw [if_pos c2]; exact ⟨fun h => by omega, fun _ => rfl⟩
  rw [if_neg c2]
  by_cases c3 : size < 0
  · rw [if_pos c3]; exact ⟨fun h => by omega, fun _ => rfl⟩
  rw [if_neg c3]
  by_cases c4 : size > 33554432
  · rw [if_pos c4]; exact ⟨fun h => by omega, fun _ => rfl⟩
  rw [if_neg c4]
  have hl := sfill_loop5 (N := N) (ey := y) (es := size) (y := y) (by omega) N y [] 0 rfl (by omega) (by omega) (by simp)
  rw [List.length_nil, show ((0 : Nat) : Int) = 0 from rfl] at hl
  by_cases c5 : ok64 y = true
  · have hs0 := ssq_nonneg y
    have hs1 := ssq_le y c5
    rw [hl.1 c5, osum_inl, chk_pos (by omega), Int.zero_add, br_beq]
    refine ⟨fun _ => ?_, fun h => absurd ⟨by omega, by omega, by omega, by omega, c5⟩ h⟩
    simp only [Int.toNat_natCast]
    unfold fillV
    by_cases c6 : ssq y = 0
    · rw [if_pos c6, if_pos c6]
    · obtain ⟨r, e1, g1, _⟩ := fsqrt_F (N := N) (a := 1048576 * ssq y) (by omega) (by omega) (by omega)
      obtain ⟨t, e2, g2, _⟩ := fsqrt_F (N := N) (a := 1048576 * y.length) (by omega) (by omega) (by omega)
      have ht := root_t (by omega) g2
      have hr := root_r (by omega) g1
      have h16 := sfill_loop16 (N := N) (y := y) (size := size) (rr := r) (t := t) (by omega) (by omega) (by omega) g2.p ht (by omega) N y [] [] rfl rfl (by omega) c5
      rw [List.length_nil, List.nil_append, List.nil_append, show ((0 : Nat) : Int) = 0 from rfl] at h16
      rw [if_neg c6, if_neg c6, i64 (by omega) (by omega), e1, obind_of, i64 (by omega) (by omega), e2, obind_of, h16, obind_of, rt_of g1, rt_of g2]
  · rw [hl.2 (by simpa using c5)]
    exact ⟨fun h => absurd h.2.2.2.2 c5, fun _ => rfl⟩
theorem sfill_F (hN : 200 ≤ N) {size : Int} {y : List Int} (h : FillOk y size) : Rc.sfill.F N size y = some (0, fillV size y) := (sfill_both hN size y).1 h
theorem rfill_F (hN : 200 ≤ N) (size : Int) (y : List Int) (h : FillOk y size) : Rc.rfill.F N size y = some (fillV size y) := by
  obtain ⟨h1, h2, h3, h4, h5⟩ := h
  unfold Rc.rfill.F ltI
  have hl := rfill_loop3 (N := N) (y := y) (by omega) N y [] 0 rfl (by omega) (by omega) (by simp) h5
  rw [List.length_nil, show ((0 : Nat) : Int) = 0 from rfl] at hl
  have hs0 := ssq_nonneg y
  have hs1 := ssq_le y h5
  rw [hl, obind_of, chk_pos (by omega), Int.zero_add, br_beq, show ((2 : Int) ^ min (Int.toNat 20) IntKind.i64.bits) = 1048576 from rfl]
  simp only [Int.toNat_natCast]
  unfold fillV
  by_cases c6 : ssq y = 0
  · rw [if_pos c6, if_pos c6]
  · obtain ⟨r, e1, g1⟩ := rsqrt_F (N := N) (a := 1048576 * ssq y) (by omega) (by omega) (by omega)
    obtain ⟨t, e2, g2⟩ := rsqrt_F (N := N) (a := 1048576 * y.length) (by omega) (by omega) (by omega)
    have ht := root_t (by omega) g2
    have hr := root_r (by omega) g1
    have h16 := rfill_loop12 (N := N) (y := y) (size := size) (rr := r) (t := t) (by omega) (by omega) (by omega) g2.p ht (by omega) N y [] [] rfl rfl (by omega) h5
    rw [List.length_nil, List.nil_append, List.nil_append, show ((0 : Nat) : Int) = 0 from rfl] at h16
    rw [if_neg c6, if_neg c6, i64 (by omega) (by omega), Int.mul_comm (ssq y), e1, obind_of, i64 (by omega) (by omega), Int.mul_comm ((y.length : Nat) : Int), e2, obind_of, h16, obind_of, rt_of g1, rt_of g2]
end
end Go.Pl
/-
  Layer 20: the sum of squares of what is filled; ShapeFills.
  Conditions: none.
-/
namespace Go.Pl
open Go.Eng Go.Proofs
section
variable {N : Nat}
end
end Go.Pl
/-
  Plain words: how many bits a number has; the code's two ways to count them.
  Conditions: none.
-/
namespace Go.Pl
open Go.Eng Go.Proofs
def bl (x : Int) : Int := if x ≤ 0 then 0 else (x.toNat.log2 : Int) + 1
theorem bl_of {x : Int} {k : Nat} (h0 : 2 ^ k ≤ x) (h1 : x < 2 ^ (k + 1)) : bl x = k + 1 := by
  have hp := p2pos k
  obtain ⟨n, rfl⟩ := Int.eq_ofNat_of_zero_le (show 0 ≤ x by omega)
  have g0 : 2 ^ k ≤ n := by exact_mod_cast h0
  have g1 : n < 2 ^ (k + 1) := by exact_mod_cast h1
  have hn : n ≠ 0 := by have := Nat.two_pow_pos k; omega
  unfold bl
  rw [if_neg (by omega), Int.toNat_natCast]
  have e1 := (Nat.le_log2 hn).2 g0
  have e2 := (Nat.log2_lt hn).2 g1
  omega
theorem bl_spec {x : Int} (h : 1 ≤ x) : ∃ k : Nat, bl x = k + 1 ∧ 2 ^ k ≤ x ∧ x < 2 ^ (k + 1) := by
  obtain ⟨n, rfl⟩ := Int.eq_ofNat_of_zero_le (show 0 ≤ x by omega)
  have hn : n ≠ 0 := by omega
  refine ⟨n.log2, ?_, by exact_mod_cast Nat.log2_self_le hn, by exact_mod_cast Nat.lt_log2_self⟩
  unfold bl
  rw [if_neg (by omega), Int.toNat_natCast]
theorem bl_zero {x : Int} (h : x ≤ 0) : bl x = 0 := by unfold bl; rw [if_pos h]
theorem bl_nonneg (x : Int) : 0 ≤ bl x := by unfold bl; split <;> omega
theorem bl_mono {x y : Int} (h : x ≤ y) : bl x ≤ bl y := by
  rcases Int.lt_or_le x 1 with h1 | h1
  · rw [bl_zero (by omega)]; exact bl_nonneg y
  · obtain ⟨k, e1, a1, a2⟩ := bl_spec h1
    obtain ⟨j, e2, c1, c2⟩ := bl_spec (x := y) (by omega)
    rw [e1, e2]
    rcases Nat.lt_or_ge j k with hj | hj
    · have := p2le (a := j + 1) (b := k) hj
      omega
    · omega
theorem bl_le {x : Int} {n : Nat} (h : x < 2 ^ n) : bl x ≤ n := by
  rcases Int.lt_or_le x 1 with h1 | h1
  · rw [bl_zero (by omega)]; omega
  · obtain ⟨k, e1, a1, a2⟩ := bl_spec h1
    rcases Nat.lt_or_ge k n with hj | hj
    · omega
    · have := p2le (a := n) (b := k) hj; omega
theorem bl_shift {x : Int} (s : Nat) (h : 1 ≤ x / 2 ^ s) : bl x = s + bl (x / 2 ^ s) := by
  obtain ⟨k, e1, a1, a2⟩ := bl_spec h
  have hp := p2pos s
  have h1 := Int.ediv_mul_le x (show (2 : Int) ^ s ≠ 0 by omega)
  have h2 := Int.lt_ediv_add_one_mul_self x hp
  have h3 : (2 : Int) ^ k * 2 ^ s ≤ x / 2 ^ s * 2 ^ s := Int.mul_le_mul_of_nonneg_right a1 (by omega)
  have h4 : (x / 2 ^ s + 1) * 2 ^ s ≤ 2 ^ (k + 1) * 2 ^ s := Int.mul_le_mul_of_nonneg_right (by omega) (by omega)
  rw [← Int.pow_add] at h3 h4
  rw [e1, bl_of (k := k + s) (by omega) (by rw [show k + s + 1 = k + 1 + s by omega]; omega)]
  omega
def tab8 : List Int := [0, 1, 2, 2, 3, 3, 3, 3, 4, 4, 4, 4, 4, 4, 4, 4, 5, 5, 5, 5, 5, 5, 5, 5, 5, 5, 5, 5, 5, 5, 5, 5, 6, 6, 6, 6, 6, 6, 6, 6, 6, 6, 6, 6, 6, 6, 6, 6, 6, 6, 6, 6, 6, 6, 6, 6, 6, 6, 6, 6, 6, 6, 6, 6, 7, 7, 7, 7, 7, 7, 7, 7, 7, 7, 7, 7, 7, 7, 7, 7, 7, 7, 7, 7, 7, 7, 7, 7, 7, 7, 7, 7, 7, 7, 7, 7, 7, 7, 7, 7, 7, 7, 7, 7, 7, 7, 7, 7, 7, 7, 7, 7, 7, 7, 7, 7, 7, 7, 7, 7, 7, 7, 7, 7, 7, 7, 7, 7, 8, 8, 8, 8, 8, 8, 8, 8, 8, 8, 8, 8, 8, 8, 8, 8, 8, 8, 8, 8, 8, 8, 8, 8, 8, 8, 8, 8, 8, 8, 8, 8, 8, 8, 8, 8, 8, 8, 8, 8, 8, 8, 8, 8, 8, 8, 8, 8, 8, 8, 8, 8, 8, 8, 8, 8, 8, 8, 8, 8, 8, 8, 8, 8, 8, 8, 8, 8, 8, 8, 8, 8, 8, 8, 8, 8, 8, 8, 8, 8, 8, 8, 8, 8, 8, 8, 8, 8, 8, 8, 8, 8, 8, 8, 8, 8, 8, 8, 8, 8, 8, 8, 8, 8, 8, 8, 8, 8, 8, 8, 8, 8, 8, 8, 8, 8, 8, 8, 8, 8, 8, 8, 8, 8, 8, 8, 8, 8]
theorem tab8_all : ∀ y : Fin 256, tab8.getD y.val 0 = (if y.val = 0 then 0 else (y.val.log2 : Int) + 1) := by decide +kernel
theorem tab8_get {y : Int} (h0 : 0 ≤ y) (h1 : y < 256) : tab8.getD y.toNat 0 = bl y := by
  have := tab8_all ⟨y.toNat, by omega⟩
  simp only at this
  rw [this]
  unfold bl
  by_cases h : y ≤ 0
  · rw [if_pos (by omega), if_pos h]
  · rw [if_neg (by omega), if_neg h]
theorem p32 : (2 : Int) ^ min (Int.toNat (32 : Int)) IntKind.u64.bits = 4294967296 := rfl
theorem fd256 (a : Int) : a.fdiv 256 = a / 256 := fdiv_ediv (by omega)
theorem fd65536 (a : Int) : a.fdiv 65536 = a / 65536 := fdiv_ediv (by omega)
theorem fd32 (a : Int) : a.fdiv 4294967296 = a / 4294967296 := fdiv_ediv (by omega)
theorem p16 : (2 : Int) ^ min (Int.toNat (16 : Int)) IntKind.u64.bits = 65536 := rfl
set_option maxRecDepth 100000 in
theorem len64_F {N : Nat} {x : Int} (h0 : 0 ≤ x) (h1 : x < 18446744073709551616) : Rc.len64.F N x = some (bl x) := by
  have hL : Rc.len64.F N x = Rc.len64.F N x := rfl
  unfold Rc.len64.F at hL ⊢
  generalize hT : ([(0 : Int), (1 : Int), (2 : Int), (2 : Int), (3 : Int), (3 : Int), (3 : Int), (3 : Int), (4 : Int), (4 : Int), (4 : Int), (4 : Int), (4 : Int), (4 : Int), (4 : Int), (4 : Int), (5 : Int), (5 : Int), (5 : Int), (5 : Int), (5 : Int), (5 : Int), (5 : Int), (5 : Int), (5 : Int), (5 : Int), (5 : Int), (5 : Int), (5 : Int), (5 : Int), (5 : Int), (5 : Int), (6 : Int), (6 : Int), (6 : Int), (6 : Int), (6 : Int), (6 : Int), (6 : Int), (6 : Int), (6 : Int), (6 : Int), (6 : Int), (6 : Int), (6 : Int), (6 : Int), (6 : Int), (6 : Int), (6 : Int), (6 : Int), (6 : Int), (6 : Int), (6 : Int), (6 : Int), (6 : Int), (6 : Int), (6 : Int), (6 : Int), (6 : Int), (6 : Int), (6 : Int), (6 : Int), (6 : Int), (6 : Int), (7 : Int), (7 : Int), (7 : Int), (7 : Int), (7 : Int), (7 : Int), (7 : Int), (7 : Int), (7 : Int), (7 : Int), (7 : Int), (7 : Int), (7 : Int), (7 : Int), (7 : Int), (7 : Int), (7 : Int), (7 : Int), (7 : Int), (7 : Int), (7 : Int), (7 : Int), (7 : Int), (7 : Int), (7 : Int), (7 : Int), (7 : Int), (7 : Int), (7 : Int), (7 : Int), (7 : Int), (7 : Int), (7 : Int), (7 : Int), (7 : Int), (7 : Int), (7 : Int), (7 : Int), (7 : Int), (7 : Int), (7 : Int), (7 : Int), (7 : Int), (7 : Int), (7 : Int), (7 : Int), (7 : Int), (7 : Int), (7 : Int), (7 : Int), (7 : Int), (7 : Int), (7 : Int), (7 : Int), (7 : Int), (7 : Int), (7 : Int), (7 : Int), (7 : Int), (7 : Int), (7 : Int), (7 : Int), (7 : Int), (7 : Int), (8 : Int), (8 : Int), (8 : Int), (8 : Int), (8 : Int), (8 : Int), (8 : Int), (8 : Int), (8 : Int), (8 : Int), (8 : Int), (8 : Int), (8 : Int), (8 : Int), (8 : Int), (8 : Int), (8 : Int), (8 : Int), (8 : Int), (8 : Int), (8 : Int), (8 : Int), (8 : Int), (8 : Int), (8 : Int), (8 : Int), (8 : Int), (8 : Int), (8 : Int), (8 : Int), (8 : Int), (8 : Int), (8 : Int), (8 : Int), (8 : Int), (8 : Int), (8 : Int), (8 : Int), (8 : Int), (8 : Int), (8 : Int), (8 : Int), (8 : Int), (8 : Int), (8 : Int), (8 : Int), (8 : Int), (8 : Int), (8 : Int), (8 : Int), (8 : Int), (8 : Int), (8 : Int), (8 : Int), (8 : Int), (8 : Int), (8 : Int), (8 : Int), (8 : Int), (8 : Int), (8 : Int), (8 : Int), (8 : Int), (8 : Int), (8 : Int), (8 : Int), (8 : Int), (8 : Int), (8 : Int), (8 : Int), (8 : Int), (8 : Int), (8 : Int), (8 : Int), (8 : Int), (8 : Int), (8 : Int), (8 : Int), (8 : Int), (8 : Int), (8 : Int), (8 : Int), (8 : Int), (8 : Int), (8 : Int), (8 : Int), (8 : Int), (8 : Int), (8 : Int), (8 : Int), (8 : Int), (8 : Int), (8 : Int), (8 : Int), (8 : Int), (8 : Int), (8 : Int), (8 : Int), (8 : Int), (8 : Int), (8 : Int), (8 : Int), (8 : Int), (8 : Int), (8 : Int), (8 : Int), (8 : Int), (8 : Int), (8 : Int), (8 : Int), (8 : Int), (8 : Int), (8 : Int), (8 : Int), (8 : Int), (8 : Int), (8 : Int), (8 : Int), (8 : Int), (8 : Int), (8 : Int), (8 : Int), (8 : Int), (8 : Int), (8 : Int), (8 : Int), (8 : Int), (8 : Int)] : List Int) = T
  replace hT : T = tab8 := hT.symm
  subst hT
  simp only [p32, p16, p8, br_dec, ge_iff_le, fd256, fd65536, fd32]
  have sh : ∀ (s : Nat) (y : Int), x / 2 ^ s = y → (s = 0 ∨ 1 ≤ y) → bl x = s + bl y := by
    intro s y hy hs
    subst hy
    rcases hs with rfl | hs
    · simp
    · exact bl_shift s hs
  have fin : ∀ (s : Nat) (y : Int), x / 2 ^ s = y → (s = 0 ∨ 1 ≤ y) → 0 ≤ y → y < 256 → s ≤ 56 → ∀ z : Int, z = s → IntKind.i64.wrap (z + IntKind.i64.wrap (tab8.getD y.toNat 0)) = bl x := by
    intro s y hy hs hy0 hy1 hs2 z hz
    have b0 := bl_nonneg y
    have b1 := bl_le (n := 8) (x := y) (by show y < 256; exact hy1)
    rw [tab8_get hy0 hy1, i64 (x := bl y) (by omega) (by omega), i64 (by omega) (by omega), sh s y hy hs, hz]
  by_cases a1 : 4294967296 ≤ x
  · rw [if_pos a1]
    by_cases a2 : 65536 ≤ x / 4294967296
    · rw [if_pos a2]
      by_cases a3 : 256 ≤ x / 4294967296 / 65536
      · rw [if_pos a3]
        refine (chk_pos (by rw [u8 (by omega) (by omega)]; omega) _).trans ?_
        rw [u8 (by omega) (by omega)]
        exact congrArg some (fin 56 _ (by show x / 72057594037927936 = _; omega) (Or.inr (by omega)) (by omega) (by omega) (by omega) _ rfl)
      · rw [if_neg a3]
        refine (chk_pos (by rw [u8 (by omega) (by omega)]; omega) _).trans ?_
        rw [u8 (by omega) (by omega)]
        exact congrArg some (fin 48 _ (by show x / 281474976710656 = _; omega) (Or.inr (by omega)) (by omega) (by omega) (by omega) _ rfl)
    · rw [if_neg a2]
      by_cases a3 : 256 ≤ x / 4294967296
      · rw [if_pos a3]
        refine (chk_pos (by rw [u8 (by omega) (by omega)]; omega) _).trans ?_
        rw [u8 (by omega) (by omega)]
        exact congrArg some (fin 40 _ (by show x / 1099511627776 = _; omega) (Or.inr (by omega)) (by omega) (by omega) (by omega) _ rfl)
      · rw [if_neg a3]
        refine (chk_pos (by rw [u8 (by omega) (by omega)]; omega) _).trans ?_
        rw [u8 (by omega) (by omega)]
        exact congrArg some (fin 32 _ (by show x / 4294967296 = _; omega) (Or.inr (by omega)) (by omega) (by omega) (by omega) _ rfl)
  · rw [if_neg a1]
    by_cases a2 : 65536 ≤ x
    · rw [if_pos a2]
      by_cases a3 : 256 ≤ x / 65536
      · rw [if_pos a3]
        refine (chk_pos (by rw [u8 (by omega) (by omega)]; omega) _).trans ?_
        rw [u8 (by omega) (by omega)]
        exact congrArg some (fin 24 _ (by show x / 16777216 = _; omega) (Or.inr (by omega)) (by omega) (by omega) (by omega) _ rfl)
      · rw [if_neg a3]
        refine (chk_pos (by rw [u8 (by omega) (by omega)]; omega) _).trans ?_
        rw [u8 (by omega) (by omega)]
        exact congrArg some (fin 16 _ (by show x / 65536 = _; omega) (Or.inr (by omega)) (by omega) (by omega) (by omega) _ rfl)
    · rw [if_neg a2]
      by_cases a3 : 256 ≤ x
      · rw [if_pos a3]
        refine (chk_pos (by rw [u8 (by omega) (by omega)]; omega) _).trans ?_
        rw [u8 (by omega) (by omega)]
        exact congrArg some (fin 8 _ (by show x / 256 = _; omega) (Or.inr (by omega)) (by omega) (by omega) (by omega) _ rfl)
      · rw [if_neg a3]
        refine (chk_pos (by rw [u8 (by omega) (by omega)]; omega) _).trans ?_
        rw [u8 (by omega) (by omega)]
        exact congrArg some (fin 0 _ (by simp) (Or.inl rfl) (by omega) (by omega) (by omega) _ rfl)
theorem blen_F {N : Nat} {x : Int} (h0 : 0 ≤ x) (h1 : x < 18446744073709551616) : Rc.blen.F N x = some (bl x) := by
  unfold Rc.blen.F
  rw [len64_F h0 h1]
  rfl
theorem bl_half {x : Int} (h : 1 ≤ x) : bl x = bl (x / 2) + 1 := by
  by_cases h2 : 2 ≤ x
  · have := bl_shift (x := x) 1 (by show 1 ≤ x / 2; omega)
    rw [this]
    show ((1 : Nat) : Int) + bl (x / 2) = _
    omega
  · have : x = 1 := by omega
    subst this
    decide
theorem rlen_loop {N : Nat} : ∀ (nn : Nat) (f : Nat) (a n : Int), a < 2 ^ f → a ≤ 9223372036854775807 → 0 ≤ n → n + f ≤ 1000 → f < nn → Rc.rlen.loop2 N nn a n = some (n + bl a)
  | 0, f, a, n, _, _, _, _, h => by omega
  | nn + 1, f, a, n, h1, h2, h3, h4, h => by
    unfold Rc.rlen.loop2
    simp only [br_dec]
    by_cases ha : a > 0
    · rw [if_pos ha, tdiv_ediv (by omega), i64 (x := a / 2) (by omega) (by omega), i64 (x := n + 1) (by omega) (by omega)]
      cases f with
      | zero => simp at h1; omega
      | succ f =>
        rw [Int.pow_succ] at h1
        rw [rlen_loop nn f (a / 2) (n + 1) (by omega) (by omega) (by omega) (by omega) (by omega), bl_half (x := a) (by omega)]
        exact congrArg some (by omega : n + 1 + bl (a / 2) = n + (bl (a / 2) + 1))
    · rw [if_neg ha, bl_zero (by omega)]
      exact congrArg some (by omega : n = n + 0)
theorem rlen_F {N : Nat} {a : Int} (h : a ≤ 9223372036854775807) (hN : 300 ≤ N) : Rc.rlen.F N a = some (bl a) := by
  unfold Rc.rlen.F
  rw [rlen_loop N 63 a 0 (by show a < 9223372036854775808; omega) h (by omega) (by omega) (by omega), obind_of]
  exact congrArg some (by omega : 0 + bl a = bl a)
def Q.tell (q : Q) (count : Int) : Int := count - bl q.rng
theorem Q.bl_range {q : Q} (h : q.Ok) : 24 ≤ bl q.rng ∧ bl q.rng ≤ 32 := by
  refine ⟨?_, bl_le (n := 32) (by show q.rng < 4294967296; have := h.r1; omega)⟩
  have := bl_mono (x := 8388608) (y := q.rng) (by have := h.r0; omega)
  have e : bl 8388608 = 24 := by decide +kernel
  omega
section
variable {N : Nat} {val last front back window waiting count : Int} {bad : Bool} {b : List Int}
end
section
variable {N : Nat} {val last front back wait waiting count eq : Int} {bad : Bool} {b : List Int}
theorem rtell_F {q : Q} (h : q.Ok) (hc0 : 0 ≤ count) (hc1 : count < 1099511627776) (hN : 300 ≤ N) : Rc.rtell.F N q.rng val last front back wait waiting count eq bad b = some (q.tell count) := by
  have := Q.bl_range h
  unfold Rc.rtell.F
  simp only [chkI_same, chkB_same, chkL_same]
  rw [i64 (x := q.rng) (by have := h.r0; omega) (by have := h.r1; omega), rlen_F (by have := h.r1; omega) hN, obind_of, i64 (by omega) (by omega)]
  rfl
end
def Q.new0 (b : List Int) : Q := ⟨128, 127 - nb b 0 / 2, nb b 0, 1⟩
def Q.new (b : List Int) : Q := (Q.new0 b).on b
def cnew (b : List Int) : Int := 9 + 8 * (((Q.new b).m - 1 : Nat) : Int)
theorem Q.new0_pre {b : List Int} (hb : Bytes b) : (Q.new0 b).Pre := by
  obtain ⟨h1, h2⟩ := nb_range hb 0
  unfold Q.new0
  exact ⟨by simp only; omega, by simp only; omega, by simp only; omega, by simp only; omega, h1, h2⟩
theorem Q.new_ok {b : List Int} (hb : Bytes b) : (Q.new b).Ok := Q.on_ok hb (Q.new0_pre hb)
theorem clone8_F {N : Nat} {b : List Int} (hl : b.length < 140737488351233) : Rc.clone8.F2 N b = some b := by
  unfold Rc.clone8.F2
  rw [chk_pos (by omega)]
theorem rnew_F {N : Nat} {b : List Int} (hb : Bytes b) (hl : b.length < 140737488351233) (hN : 300 ≤ N) :
    Rc.rnew.F N b = some ((Q.new b).rng, (Q.new b).val, (Q.new b).last, fr b (Q.new b).m, 0, 0, 0, cnew b, 0, false, b) := by
  unfold Rc.rnew.F
  obtain ⟨h1, h2⟩ := nb_range hb 0
  have hn := rnext_F (N := N) (rng := 128) (val := 0) (last := 0) (back := 0) (wait := 0) (waiting := 0) (count := 9) (eq := 0) (bad := false) hb hl 0
  rw [show fr b 0 = 0 by simp [fr]] at hn
  rw [hn, obind_of]
  simp only
  rw [tdiv_ediv (by omega), i64 (x := nb b 0 / 2) (by omega) (by omega), i64 (x := 127 - _) (by omega) (by omega), u64 (by omega) (by omega)]
  have := ron_F (N := N) (back := 0) (wait := 0) (waiting := 0) (count := 9) (eq := 0) (bad := false) hb hl (Q.new0_pre hb) (by omega) (by omega) (by omega)
  simp only [Q.new0] at this
  rw [this]
  rfl
end Go.Pl
/-
  Plain words of chapter 3, those that hang on no law (taken out of the texts of L3 by split.py).
  Conditions: none.
-/
namespace Go.Pl
open Go.Eng Go.Proofs
theorem ct_range {b : List Int} {q q' : Q} (h : q.m ≤ q'.m ∧ q'.m ≤ q.m + 4) (c : Int) : c ≤ ct c q q' ∧ ct c q q' ≤ c + 32 := by
  unfold ct
  omega
def W.new : W := ⟨0, 0, 0⟩
theorem W.new_ok : W.new.Ok := ⟨by decide, by decide, by decide⟩
theorem nb_app {b c : List Int} {j : Nat} (h : j < b.length) : nb (b ++ c) j = nb b j := by
  simp [nb, List.getD_eq_getElem?_getD, List.getElem?_append_left h]
theorem Q.new_rng (b : List Int) : (Q.new b).rng = 2147483648 ∧ (Q.new b).m = 4 := by
  have : Q.new b = ((((Q.new0 b).step b).step b).step b) := rfl
  rw [this]
  exact ⟨rfl, rfl⟩
theorem cnew_eq (b : List Int) : cnew b = 1 + 8 * ((Q.new b).m : Int) := by
  have := (Q.new_rng b).2
  unfold cnew
  omega
def bitE (b : List Int) (p : Nat) : Int := (eb b (p / 8) / 2 ^ (p % 8)) % 2
theorem bitE_range (b : List Int) (p : Nat) : 0 ≤ bitE b p ∧ bitE b p < 2 := by unfold bitE; omega
def bsum (b : List Int) (P : Nat) : Nat → Int
  | 0 => 0
  | n + 1 => bsum b P n + bitE b (P + n) * 2 ^ n
theorem bsum_range (b : List Int) (P : Nat) : ∀ n, 0 ≤ bsum b P n ∧ bsum b P n < 2 ^ n
  | 0 => by simp [bsum]
  | n + 1 => by
    obtain ⟨h1, h2⟩ := bsum_range b P n
    obtain ⟨h3, h4⟩ := bitE_range b (P + n)
    have h5 := p2pos n
    have h6 : 0 ≤ bitE b (P + n) * 2 ^ n := Int.mul_nonneg h3 (by omega)
    have h7 : bitE b (P + n) * 2 ^ n ≤ 1 * 2 ^ n := Int.mul_le_mul_of_nonneg_right (by omega) (by omega)
    simp only [bsum, Int.pow_succ]
    omega
theorem bsum_split (b : List Int) (P a : Nat) : ∀ c, bsum b P (a + c) = bsum b P a + 2 ^ a * bsum b (P + a) c
  | 0 => by simp [bsum]
  | c + 1 => by
    rw [← Nat.add_assoc]
    simp only [bsum]
    rw [bsum_split b P a c, Int.pow_add, Nat.add_assoc P a c, Int.mul_add, ← Int.mul_assoc (2 ^ a), Int.mul_comm (2 ^ a) (bitE b _), Int.mul_assoc (bitE b _), Int.add_assoc]
theorem bsum_byte {b : List Int} (hb : Bytes b) (k : Nat) : bsum b (8 * k) 8 = eb b k := by
  obtain ⟨h1, h2⟩ := eb_range hb k
  simp only [bsum, bitE]
  rw [show (8 * k + 0) / 8 = k by omega, show (8 * k + 1) / 8 = k by omega, show (8 * k + 2) / 8 = k by omega, show (8 * k + 3) / 8 = k by omega, show (8 * k + 4) / 8 = k by omega, show (8 * k + 5) / 8 = k by omega, show (8 * k + 6) / 8 = k by omega, show (8 * k + 7) / 8 = k by omega]
  rw [show (8 * k + 0) % 8 = 0 by omega, show (8 * k + 1) % 8 = 1 by omega, show (8 * k + 2) % 8 = 2 by omega, show (8 * k + 3) % 8 = 3 by omega, show (8 * k + 4) % 8 = 4 by omega, show (8 * k + 5) % 8 = 5 by omega, show (8 * k + 6) % 8 = 6 by omega, show (8 * k + 7) % 8 = 7 by omega]
  generalize eb b k = x at h1 h2 ⊢
  have e0 : (2 : Int) ^ 0 = 1 := rfl
  have e1 : (2 : Int) ^ 1 = 2 := rfl
  have e2 : (2 : Int) ^ 2 = 4 := rfl
  have e3 : (2 : Int) ^ 3 = 8 := rfl
  have e4 : (2 : Int) ^ 4 = 16 := rfl
  have e5 : (2 : Int) ^ 5 = 32 := rfl
  have e6 : (2 : Int) ^ 6 = 64 := rfl
  have e7 : (2 : Int) ^ 7 = 128 := rfl
  rw [e0, e1, e2, e3, e4, e5, e6, e7]
  omega
structure W.At (b : List Int) (w : W) (P : Nat) : Prop where
  a : 8 * w.k = P + w.wai
  b : w.win = bsum b P w.wai
theorem W.At.step {b : List Int} (hb : Bytes b) {w : W} {P : Nat} (h : w.At b P) : (w.step b).At b P := by
  refine ⟨by have := h.a; simp only [W.step]; omega, ?_⟩
  simp only [W.step]
  rw [bsum_split, h.b, show P + w.wai = 8 * w.k by have := h.a; omega, bsum_byte hb, Int.mul_comm]
theorem W.At.fill {b : List Int} (hb : Bytes b) {P n : Nat} : ∀ (f : Nat) (w : W), w.At b P → (W.fill b n f w).At b P
  | 0, w, h => h
  | f + 1, w, h => by
    simp only [W.fill]
    split
    · exact W.At.fill hb f _ (h.step hb)
    · exact h
theorem W.At.next {b : List Int} (hb : Bytes b) {w : W} {P n : Nat} (h : w.At b P) (hn : n ≤ 24) : w.val b n = bsum b P n ∧ (w.next b n).At b (P + n) := by
  have hf := W.At.fill (n := n) hb 4 w h
  have h4 := W.fill_n (b := b) (n := n) 4 w (by omega)
  obtain ⟨r0, r1⟩ := bsum_range b P n
  have hp := p2pos n
  have e : (W.fill b n 4 w).win = bsum b P n + 2 ^ n * bsum b (P + n) ((W.fill b n 4 w).wai - n) := by
    rw [hf.b, ← bsum_split]
    congr 1
    omega
  refine ⟨?_, ⟨?_, ?_⟩⟩
  · unfold W.val W.at
    rw [e, Int.add_mul_emod_self_left, Int.emod_eq_of_lt r0 r1]
  · have := hf.a
    simp only [W.next, W.at]
    omega
  · simp only [W.next, W.at]
    rw [e, Int.add_mul_ediv_left _ _ (by omega), Int.ediv_eq_zero_of_lt r0 r1, Int.zero_add]
end Go.Pl
/-
  Plain words of chapter 3, those that hang on no law (taken out of the texts of L3 by split.py).
  Conditions: none.
-/
namespace Go.Pl
open Go.Eng Go.Proofs
def ub (ft : Int) : Nat := (bl (ft - 1) - 8).toNat
def uf (ft : Int) : Int := (ft - 1) / 2 ^ ub ft + 1
theorem ub_range {ft : Int} (h0 : 256 < ft) (h1 : ft ≤ 4294967295) : 1 ≤ ub ft ∧ ub ft ≤ 24 ∧ bl (ft - 1) = ub ft + 8 ∧ 1 ≤ uf ft ∧ uf ft ≤ 256 := by
  have a1 := bl_le (n := 32) (x := ft - 1) (by show ft - 1 < 4294967296; omega)
  have a2 := bl_mono (x := 256) (y := ft - 1) (by omega)
  have e : bl 256 = 9 := by decide +kernel
  obtain ⟨k, k1, k2, k3⟩ := bl_spec (x := ft - 1) (by omega)
  have hub : ub ft = k - 7 := by unfold ub; omega
  have hp := p2pos (ub ft)
  refine ⟨by unfold ub; omega, by unfold ub; omega, by unfold ub; omega, ?_, ?_⟩
  · unfold uf
    have : 0 ≤ (ft - 1) / 2 ^ ub ft := Int.ediv_nonneg (by omega) (by omega)
    omega
  · unfold uf
    have : (ft - 1) / 2 ^ ub ft < 256 := by
      rw [Int.ediv_lt_iff_lt_mul hp, show (256 : Int) = 2 ^ 8 from rfl, ← Int.pow_add, hub, show 8 + (k - 7) = k + 1 by omega]
      exact k3
    omega
theorem ch_takes {q : Q} (h : q.Ok) {ft : Int} (f0 : 1 ≤ ft) (f1 : ft ≤ 65536) : Takes q (q.ch ft) (q.ch ft + 1) ft := by
  obtain ⟨c0, c1⟩ := Q.ch_range h f0 f1
  exact ⟨f0, f1, c0, Int.le_refl _, by omega, by omega⟩
def Q.un (b : List Int) (q : Q) (ft : Int) : Q := if ft ≤ 256 then q.tk b (q.ch ft) (q.ch ft + 1) ft else q.tk b (q.ch (uf ft)) (q.ch (uf ft) + 1) (uf ft)
def uv (b : List Int) (q : Q) (w : W) (ft : Int) : Int := q.ch (uf ft) * 2 ^ ub ft + w.val b (ub ft)
theorem Q.un_ok {b : List Int} (hb : Bytes b) {q : Q} (h : q.Ok) {ft : Int} (h0 : 1 < ft) (h1 : ft ≤ 4294967295) : (q.un b ft).Ok := by
  unfold Q.un
  split
  · exact Q.tk_ok hb h (ch_takes h (by omega) (by omega))
  · obtain ⟨_, _, _, u0, u1⟩ := ub_range (ft := ft) (by omega) h1
    exact Q.tk_ok hb h (ch_takes h u0 (by omega))
theorem Q.un_m (b : List Int) (q : Q) (ft : Int) : q.m ≤ (q.un b ft).m ∧ (q.un b ft).m ≤ q.m + 4 := by
  unfold Q.un
  split <;> exact Q.tk_m b q _ _ _
theorem uv_range {b : List Int} {q : Q} (h : q.Ok) (w : W) {ft : Int} (h0 : 256 < ft) (h1 : ft ≤ 4294967295) : 0 ≤ uv b q w ft ∧ uv b q w ft < 4294967296 ∧ 0 ≤ q.ch (uf ft) * 2 ^ ub ft ∧ q.ch (uf ft) * 2 ^ ub ft < 4294967296 := by
  obtain ⟨b0, b1, _, u0, u1⟩ := ub_range h0 h1
  obtain ⟨c0, c1⟩ := Q.ch_range h u0 (by omega)
  obtain ⟨v0, v1⟩ := W.val_range (b := b) w (ub ft)
  have hp := p2pos (ub ft)
  have hp2 : (2 : Int) ^ ub ft ≤ 16777216 := p2le (b := 24) b1
  have k1 : 0 ≤ q.ch (uf ft) * 2 ^ ub ft := Int.mul_nonneg c0 (by omega)
  have k2 : q.ch (uf ft) * 2 ^ ub ft ≤ 255 * 2 ^ ub ft := Int.mul_le_mul_of_nonneg_right (by omega) (by omega)
  unfold uv
  omega
section
variable {N : Nat} {count : Int} {bad : Bool} {b : List Int}
end
theorem bl_mul {x : Int} (h : 1 ≤ x) (s : Nat) : bl (x * 2 ^ s) = s + bl x := by
  have hp := p2pos s
  have e : x * 2 ^ s / 2 ^ s = x := Int.mul_ediv_cancel _ (by omega)
  have := bl_shift (x := x * 2 ^ s) s (by rw [e]; exact h)
  rw [e] at this
  exact this
theorem Q.norm_rng (b : List Int) : ∀ (n : Nat) (q : Q), ∃ d : Nat, (Q.norm b n q).m = q.m + d ∧ (Q.norm b n q).rng = q.rng * 2 ^ (8 * d)
  | 0, q => ⟨0, rfl, by simp [Q.norm]⟩
  | n + 1, q => by
    simp only [Q.norm]
    split
    · obtain ⟨d, h1, h2⟩ := Q.norm_rng b n (q.step b)
      refine ⟨d + 1, by rw [h1]; simp only [Q.step]; omega, ?_⟩
      rw [h2]
      simp only [Q.step]
      rw [show 8 * (d + 1) = 8 + 8 * d by omega, Int.pow_add, ← Int.mul_assoc]
      rfl
    · exact ⟨0, rfl, by simp⟩
theorem Q.on_tell (b : List Int) {q : Q} (h : 1 ≤ q.rng) (c : Int) : (q.on b).tell (ct c q (q.on b)) = c - bl q.rng := by
  obtain ⟨d, h1, h2⟩ := Q.norm_rng b 4 q
  unfold Q.tell ct Q.on
  rw [h1, h2, bl_mul h]
  omega
end Go.Pl
/-
  Chapter 3 in plain words: numbers that are small as a rule (rc's); the reference's flags, bits, numbers.
  Conditions: none.
-/
namespace Go.Pl
open Go.Eng Go.Proofs
structure Lp where
  l : Int
  v : Int
  s : Int
def Lp.step (decay : Int) (p : Lp) : Lp := ⟨p.l + 2 * p.s, p.v + 1, (2 * p.s - 2) * decay / 32768 + 1⟩
def Lp.run (decay f : Int) : Nat → Lp → Lp
  | 0, p => p
  | n + 1, p => if 1 < p.s ∧ p.l + 2 * p.s ≤ f then Lp.run decay f n (p.step decay) else p
structure Lp.Ok (f : Int) (p : Lp) : Prop where
  l0 : 0 ≤ p.l
  l1 : p.l ≤ f
  s0 : 1 ≤ p.s
  s1 : p.s ≤ 20000
  v0 : 0 ≤ p.v
  v1 : p.v ≤ p.l + 1
theorem Lp.Ok.step {decay f : Int} (d0 : 0 ≤ decay) (d1 : decay ≤ 16000) {p : Lp} (h : p.Ok f) (hs : 1 < p.s) (hf : p.l + 2 * p.s ≤ f) : (p.step decay).Ok f ∧ 0 ≤ (2 * p.s - 2) * decay ∧ (2 * p.s - 2) * decay ≤ (2 * p.s - 2) * 16000 := by
  obtain ⟨h1, h2, h3, h4, h5, h6⟩ := h
  have k1 : 0 ≤ (2 * p.s - 2) * decay := Int.mul_nonneg (by omega) d0
  have k2 : (2 * p.s - 2) * decay ≤ (2 * p.s - 2) * 16000 := Int.mul_le_mul_of_nonneg_left d1 (by omega)
  refine ⟨⟨by simp only [Lp.step]; omega, by simp only [Lp.step]; omega, by simp only [Lp.step]; omega, by simp only [Lp.step]; omega, by simp only [Lp.step]; omega, by simp only [Lp.step]; omega⟩, k1, k2⟩
def Lp.start (fs decay : Int) : Lp := ⟨fs, 1, (32736 - fs) * (16384 - decay) / 32768 + 1⟩
def lapEnd (f : Int) (p : Lp) : Lp :=
  let p2 : Lp := if p.s ≤ 1 then ⟨p.l + 2 * ((f - p.l) / 2), p.v + (f - p.l) / 2, p.s⟩ else p
  if f < p2.l + p2.s then ⟨p2.l, -p2.v, p2.s⟩ else ⟨p2.l + p2.s, p2.v, p2.s⟩
def lapAt (f fs decay : Int) : Lp := if f ≥ fs then lapEnd f (Lp.run decay f 8192 (Lp.start fs decay)) else ⟨0, 0, fs⟩
end Go.Pl
/-
  Chapter 3 in plain words: Laplace's numbers in the code, and the reference's flags, bits, numbers.
  Conditions: none.
-/
namespace Go.Pl
open Go.Eng Go.Proofs
def lapH (p : Lp) : Int := min (p.l + p.s) 32768
section
variable {N : Nat} {back window waiting count : Int} {bad : Bool} {b : List Int}
end
section
variable {N : Nat} {back wait waiting count eq : Int} {bad : Bool} {b : List Int}
theorem rbits_loop {rng val last front : Int} (hb : Bytes b) (hl : b.length < 140737488351233) {n : Nat} (hn : n ≤ 24) : ∀ (nn f : Nat) (w : W), w.Ok → n ≤ w.wai + 8 * f → f < nn →
    Rc.rbits.loop3 N nn (n : Int) rng val last front count eq bad b (fr b w.k) w.win (w.wai : Int) = some (fr b (W.fill b n f w).k, (W.fill b n f w).win, ((W.fill b n f w).wai : Int))
  | 0, f, w, _, _, h => by omega
  | nn + 1, f, w, h, hf, h0 => by
    unfold Rc.rbits.loop3
    simp only [br_dec, chkI_same, chkB_same, chkL_same]
    by_cases hw : w.wai < n
    · rw [if_pos (by omega)]
      obtain ⟨x0, x1⟩ := eb_range hb w.k
      cases f with
      | zero => omega
      | succ f =>
        have hc := h.c
        have ih := rbits_loop (rng := rng) (val := val) (last := last) (front := front) hb hl hn nn f (w.step b) (h.step hb (by omega)) (by simp only [W.step]; omega) (by omega)
        simp only [W.fill, if_pos hw]
        by_cases hin : w.k < b.length
        · have ef : fr b w.k = (w.k : Int) := by unfold fr; omega
          have ef2 : fr b (w.k + 1) = (w.k : Int) + 1 := by unfold fr; omega
          have ex : b.getD (b.length - 1 - w.k) 0 = eb b w.k := by unfold eb; rw [if_pos hin]
          rw [ef, if_pos (by omega), i64 (x := (w.k : Int) + 1) (by omega) (by omega), i64 (x := (b.length : Int) - _) (by omega) (by omega), chk_pos (by omega), u64 (x := (w.wai : Int)) (by omega) (by omega), chk_pos (by omega),
            show ((b.length : Int) - ((w.k : Int) + 1)).toNat = b.length - 1 - w.k by omega, ex, u64 (x := eb b w.k) (by omega) (by omega), Int.toNat_natCast, or_win h.a h.b (by omega) x0 x1, i64 (x := (w.wai : Int) + 8) (by omega) (by omega)]
          simp only [W.step] at ih ⊢
          rw [ef2] at ih
          exact ih
        · have ef : fr b w.k = (b.length : Int) := by unfold fr; omega
          have ef2 : fr b (w.k + 1) = (b.length : Int) := by unfold fr; omega
          have ex : eb b w.k = 0 := by unfold eb; rw [if_neg hin]
          rw [ef, if_neg (by omega), u64 (x := (w.wai : Int)) (by omega) (by omega), chk_pos (by omega), Int.toNat_natCast, or_win h.a h.b (by omega) (by omega) (by omega), i64 (x := (w.wai : Int) + 8) (by omega) (by omega)]
          simp only [W.step] at ih ⊢
          rw [ef2, ex] at ih
          rw [ex]
          exact ih
    · rw [if_neg (by omega)]
      have : W.fill b n f w = w := by cases f with
        | zero => rfl
        | succ f => simp only [W.fill, if_neg hw]
      rw [this]
theorem rbits_F {rng val last front : Int} (hb : Bytes b) (hl : b.length < 140737488351233) {w : W} (h : w.Ok) (n : Int) (hc0 : 0 ≤ count) (hc1 : count < 1099511627776) (hN : 300 ≤ N) :
    Rc.rbits.F N n rng val last front (fr b w.k) w.win (w.wai : Int) count eq bad b =
      some (if 0 ≤ n ∧ n ≤ 24 then (w.val b n.toNat, fr b (w.next b n.toNat).k, (w.next b n.toNat).win, ((w.next b n.toNat).wai : Int), count + n) else (0, fr b w.k, w.win, (w.wai : Int), count)) := by
  unfold Rc.rbits.F
  simp only [br_dec, chkI_same, chkB_same, chkL_same]
  by_cases n0 : n < 0
  · rw [if_pos n0, if_neg (by omega)]
  rw [if_neg n0]
  by_cases n1 : n > 24
  · rw [if_pos n1, if_neg (by omega)]
  rw [if_neg n1, if_pos (show 0 ≤ n ∧ n ≤ 24 by omega)]
  obtain ⟨k, rfl⟩ : ∃ k : Nat, n = k := ⟨n.toNat, by omega⟩
  have hk : k ≤ 24 := by omega
  rw [rbits_loop hb hl hk N 4 w h (by omega) (by omega), obind_of]
  obtain ⟨h1, h2, h3⟩ := W.fill_ok hb hk 4 w h
  have h4 := W.fill_n (b := b) (n := k) 4 w (by omega)
  have h5 : (2 : Int) ^ (W.fill b k 4 w).wai ≤ 2147483648 := p2le (b := 31) h3
  rw [u64 (x := (k : Int)) (by omega) (by omega), chk_pos (by omega), chk_pos (by omega)]
  simp only [Int.toNat_natCast]
  rw [mask_val h1 (by omega) hk, i64 (x := count + k) (by omega) (by omega), i64 (by omega) (by omega), bits_u64, show min k 64 = k by omega, fdiv_ediv (by have := p2pos k; omega)]
  simp only [W.val, W.next, W.at]
  congr 5
  omega
theorem ruint_out {rng val last front : Int} {ft : Int} (h : ft ≤ 1 ∨ ft > 4294967295) : Rc.ruint.F N ft rng val last front back wait waiting count eq bad b = some (0, rng, val, last, front, back, wait, waiting, count, eq, bad) := by
  unfold Rc.ruint.F
  simp only [br_dec, chkL_same, br_beq]
  by_cases h0 : ft < 1
  · rw [if_pos h0]
  rw [if_neg h0]
  by_cases h1 : ft > 4294967295
  · rw [if_pos h1]
  rw [if_neg h1, if_pos (by omega)]
theorem ruint_small (hb : Bytes b) (hl : b.length < 140737488351233) {q : Q} (h : q.Ok) {ft : Int} (h0 : 1 < ft) (h1 : ft ≤ 256) (hc0 : 0 ≤ count) (hc1 : count < 1099511627776) (hN : 300 ≤ N) :
    ∃ eq', Rc.ruint.F N ft q.rng q.val q.last (fr b q.m) back wait waiting count eq bad b =
      some (q.ch ft, (q.un b ft).rng, (q.un b ft).val, (q.un b ft).last, fr b (q.un b ft).m, back, wait, waiting, ct count q (q.un b ft), eq', bad) := by
  refine ⟨q.rng / ft, ?_⟩
  unfold Rc.ruint.F
  simp only [br_dec, chkL_same, br_beq]
  obtain ⟨c0, c1⟩ := Q.ch_range h (ft := ft) (by omega) (by omega)
  rw [if_neg (by omega), if_neg (by omega), if_neg (by omega), if_pos h1, u64 (x := ft) (by omega) (by omega), rchoose_F h (by omega) (by omega), obind_of]
  simp only
  rw [u64 (x := q.ch ft + 1) (by omega) (by omega), rtake_F hb hl h (ch_takes h (by omega) (by omega)) hc0 hc1 (by omega), obind_of, i64 (x := q.ch ft) (by omega) (by omega)]
  simp only [Q.un, if_pos h1]
theorem ruint_great (hb : Bytes b) (hl : b.length < 140737488351233) {q : Q} (h : q.Ok) {w : W} (hw : w.Ok) {ft : Int} (h0 : 256 < ft) (h1 : ft ≤ 4294967295) (hc0 : 0 ≤ count) (hc1 : count < 1099511620000) (hN : 300 ≤ N) :
    ∃ eq', Rc.ruint.F N ft q.rng q.val q.last (fr b q.m) (fr b w.k) w.win (w.wai : Int) count eq bad b =
      some (if uv b q w ft ≥ ft then ft - 1 else uv b q w ft, (q.un b ft).rng, (q.un b ft).val, (q.un b ft).last, fr b (q.un b ft).m, fr b (w.next b (ub ft)).k, (w.next b (ub ft)).win, ((w.next b (ub ft)).wai : Int),
        ct count q (q.un b ft) + ub ft, eq', bad || decide (uv b q w ft ≥ ft)) := by
  refine ⟨q.rng / uf ft, ?_⟩
  unfold Rc.ruint.F
  simp only [br_dec, chkL_same, br_beq]
  obtain ⟨b0, b1, b2, u0, u1⟩ := ub_range h0 h1
  obtain ⟨c0, c1⟩ := Q.ch_range h u0 (by omega)
  obtain ⟨v0, v1, v2, v3⟩ := uv_range (b := b) h w h0 h1
  obtain ⟨wv0, wv1⟩ := W.val_range (b := b) w (ub ft)
  have eun : q.un b ft = q.tk b (q.ch (uf ft)) (q.ch (uf ft) + 1) (uf ft) := by unfold Q.un; rw [if_neg (by omega)]
  have hm := Q.un_m b q ft
  have hcr := ct_range (b := b) hm count
  rw [if_neg (by omega), if_neg (by omega), if_neg (by omega), if_neg (by omega), i64 (x := ft - 1) (by omega) (by omega), rlen_F (by omega) hN, obind_of, b2, i64 (x := (ub ft : Int) + 8 - 8) (by omega) (by omega),
    show (ub ft : Int) + 8 - 8 = ub ft by omega, u64 (x := (ub ft : Int)) (by omega) (by omega), chk_pos (by omega), Int.toNat_natCast, bits_i64, show min (ub ft) 64 = ub ft by omega, fdiv_ediv (by have := p2pos (ub ft); omega)]
  have euf : (ft - 1) / 2 ^ ub ft + 1 = uf ft := rfl
  rw [euf, i64 (x := uf ft) (by omega) (by omega), u64 (x := uf ft) (by omega) (by omega), rchoose_F h u0 (by omega), obind_of]
  simp only
  rw [u64 (x := q.ch (uf ft) + 1) (by omega) (by omega), rtake_F hb hl h (ch_takes h u0 (by omega)) hc0 (by omega) (by omega), obind_of, ← eun]
  simp only
  rw [chk_pos (by omega), rbits_F hb hl hw (ub ft) (by omega) (by omega) hN, if_pos (by omega), obind_of]
  simp only [Int.toNat_natCast]
  rw [i64 (x := q.ch (uf ft)) (by omega) (by omega), i64 (x := q.ch (uf ft) * 2 ^ ub ft) (by omega) (by omega), or_add c0 (by show q.ch (uf ft) * 2 ^ ub ft < 18446744073709551616; omega) wv0 wv1 (by omega),
    show q.ch (uf ft) * 2 ^ ub ft + w.val b (ub ft) = uv b q w ft from rfl, i64 (x := uv b q w ft) (by omega) (by omega)]
  by_cases hv : uv b q w ft ≥ ft
  · rw [if_pos hv, if_pos hv]
    simp [hv]
  · rw [if_neg hv, if_neg hv]
    simp [hv]
end
end Go.Pl
/-
  Chapter 4 in plain words: bytes of numbers, the range encoder's register as whole numbers, what is written is read.
  Conditions: none.
-/
namespace Go.Pl
open Go.Eng
def tb : Nat → Int → List Int
  | 0, _ => []
  | k + 1, n => tb k (n / 256) ++ [n % 256]
theorem tb_len : ∀ (k : Nat) (n : Int), (tb k n).length = k
  | 0, _ => rfl
  | k + 1, n => by simp [tb, tb_len k]
theorem tb_bytes : ∀ (k : Nat) (n : Int), Bytes (tb k n)
  | 0, _ => fun x hx => by simp [tb] at hx
  | k + 1, n => fun x hx => by
    simp only [tb, List.mem_append, List.mem_singleton] at hx
    rcases hx with hx | rfl
    · exact tb_bytes k _ x hx
    · omega
theorem tb_snoc (k : Nat) (n : Int) {c : Int} (h0 : 0 ≤ c) (h1 : c < 256) : tb k n ++ [c] = tb (k + 1) (n * 256 + c) := by
  simp only [tb]
  rw [show (n * 256 + c) / 256 = n by omega, show (n * 256 + c) % 256 = c by omega]
theorem p256_2 (a : Nat) : (256 : Int) ^ a = 2 ^ (8 * a) := by rw [Int.pow_mul]; rfl
theorem p256pos (a : Nat) : (0 : Int) < 256 ^ a := by rw [p256_2]; exact p2pos _
def cp (b : List Int) : Nat → Int
  | 0 => 0
  | m + 1 => cp b m * 256 + nb b m
theorem cp_app (b c : List Int) : ∀ m, m ≤ b.length → cp (b ++ c) m = cp b m
  | 0, _ => rfl
  | m + 1, h => by simp only [cp]; rw [cp_app b c m (by omega), nb_app (by omega)]
theorem cp_tb : ∀ (k : Nat) (n : Int), 0 ≤ n → n < 256 ^ k → cp (tb k n) k = n
  | 0, n, h0, h1 => by simp at h1; simp [cp]; omega
  | k + 1, n, h0, h1 => by
    rw [Int.pow_succ] at h1
    simp only [cp]
    have e : cp (tb (k + 1) n) k = n / 256 := by
      simp only [tb]
      rw [cp_app _ _ k (by rw [tb_len]; omega)]
      exact cp_tb k (n / 256) (by omega) (by omega)
    have e2 : nb (tb (k + 1) n) k = n % 256 := by
      simp only [tb, nb]
      rw [List.getD_eq_getElem?_getD, List.getElem?_append_right (by rw [tb_len]; omega), tb_len]
      simp
    rw [e, e2]
    omega
theorem cp_more {b : List Int} (j : Nat) : cp b (b.length + j) = cp b b.length * 256 ^ j := by
  induction j with
  | zero => simp
  | succ j ih =>
    rw [← Nat.add_assoc]
    simp only [cp]
    rw [ih, show nb b (b.length + j) = 0 from getD_out (by omega), Int.pow_succ, Int.mul_assoc, Int.add_zero]
theorem cp_less {b : List Int} (hb : Bytes b) (m : Nat) : ∀ j, cp b m = cp b (m + j) / 256 ^ j
  | 0 => by simp
  | j + 1 => by
    have h := nb_range hb (m + j)
    have hp := p256pos j
    rw [← Nat.add_assoc]
    simp only [cp]
    rw [Int.pow_succ, Int.mul_comm (256 ^ j), ← Int.ediv_ediv_of_nonneg (by omega), show (cp b (m + j) * 256 + nb b (m + j)) / 256 = cp b (m + j) by omega]
    exact cp_less hb m j
def le : Nat → Int → List Int
  | 0, _ => []
  | k + 1, n => n % 256 :: le k (n / 256)
theorem le_len : ∀ (k : Nat) (n : Int), (le k n).length = k
  | 0, _ => rfl
  | k + 1, n => by simp [le, le_len k]
theorem le_get : ∀ (k : Nat) (n : Int) (i : Nat), i < k → (le k n).getD i 0 = n / 256 ^ i % 256
  | 0, n, i, h => by omega
  | k + 1, n, 0, h => by simp [le]
  | k + 1, n, i + 1, h => by
    have := le_get k (n / 256) i (by omega)
    simp only [le, List.getD_cons_succ]
    have hp := p256pos i
    rw [this, Int.ediv_ediv_of_nonneg (by omega), Int.pow_succ, Int.mul_comm]
theorem le_ext {a b : List Int} (h : a.length = b.length) (hg : ∀ i, i < a.length → a.getD i 0 = b.getD i 0) : a = b := by
  apply List.ext_getElem h
  intro i h1 h2
  have := hg i h1
  simpa [List.getD_eq_getElem?_getD, List.getElem?_eq_getElem h1, List.getElem?_eq_getElem h2] using this
structure E where
  k : Nat
  low : Int
  rng : Int
  r : Nat
  raw : Int
def E.told (e : E) : List Int := tb e.k (e.low / 2147483648)
def E.val (e : E) : Int := e.low % 2147483648
def E.bits (e : E) : List Int := le ((e.r + 7) / 8) e.raw
def E.count (e : E) : Int := 33 + 8 * (e.k : Int) + (e.r : Int)
def E.tell (e : E) : Int := e.count - bl e.rng
structure E.Pre (e : E) : Prop where
  r0 : 1 ≤ e.rng
  r1 : e.rng ≤ 2147483648
  l0 : 0 ≤ e.low
  l1 : e.low + e.rng ≤ 2147483648 * 256 ^ e.k
  w0 : 0 ≤ e.raw
  w1 : e.raw < 2 ^ e.r
structure E.Ok (e : E) : Prop extends E.Pre e where
  g : 8388608 < e.rng
def E.step (e : E) : E := ⟨e.k + 1, e.low * 256, e.rng * 256, e.r, e.raw⟩
def E.norm : Nat → E → E
  | 0, e => e
  | n + 1, e => if e.rng ≤ 8388608 then E.norm n e.step else e
def E.on (e : E) : E := E.norm 4 e
theorem E.Pre.step {e : E} (h : e.Pre) (hr : e.rng ≤ 8388608) : e.step.Pre := by
  obtain ⟨h1, h2, h3, h4, h5, h6⟩ := h
  refine ⟨by simp only [E.step]; omega, by simp only [E.step]; omega, by simp only [E.step]; omega, ?_, h5, h6⟩
  simp only [E.step, Int.pow_succ]
  omega
theorem E.norm_ok : ∀ (n : Nat) (e : E), e.Pre → 8388608 < e.rng * 256 ^ n → (E.norm n e).Ok
  | 0, e, h, hn => ⟨h, by simpa [E.norm] using hn⟩
  | n + 1, e, h, hn => by
    simp only [E.norm]
    split
    · rename_i hr
      refine E.norm_ok n _ (h.step hr) ?_
      simp only [E.step]
      rw [Int.pow_succ] at hn
      rw [Int.mul_assoc, Int.mul_comm 256]
      exact hn
    · exact ⟨h, by omega⟩
theorem E.on_ok {e : E} (h : e.Pre) : e.on.Ok := E.norm_ok 4 e h (by have := h.r0; omega)
theorem E.norm_stop {e : E} (h : 8388608 < e.rng) : ∀ n, E.norm n e = e
  | 0 => rfl
  | n + 1 => by simp only [E.norm]; rw [if_neg (by omega)]
theorem E.norm_same : ∀ (n : Nat) (e : E), (E.norm n e).r = e.r ∧ (E.norm n e).raw = e.raw ∧ e.k ≤ (E.norm n e).k ∧ (E.norm n e).k ≤ e.k + n
  | 0, e => by simp [E.norm]
  | n + 1, e => by
    simp only [E.norm]
    split
    · have := E.norm_same n e.step
      simp only [E.step] at this ⊢
      omega
    · simp
theorem E.norm_tell : ∀ (n : Nat) (e : E), 1 ≤ e.rng → (E.norm n e).tell = e.tell
  | 0, e, _ => rfl
  | n + 1, e, h => by
    simp only [E.norm]
    split
    · rw [E.norm_tell n _ (by simp only [E.step]; omega)]
      simp only [E.tell, E.count, E.step]
      have := bl_mul h 8
      rw [show (2 : Int) ^ 8 = 256 from rfl] at this
      omega
    · rfl
theorem E.on_tell {e : E} (h : 1 ≤ e.rng) : e.on.tell = e.tell := E.norm_tell 4 e h
def E.tk0 (e : E) (fl fh ft : Int) : E :=
  if 0 < fl then ⟨e.k, e.low + (e.rng - e.rng / ft * (ft - fl)), e.rng / ft * (fh - fl), e.r, e.raw⟩
  else ⟨e.k, e.low, e.rng - e.rng / ft * (ft - fh), e.r, e.raw⟩
def E.tk (e : E) (fl fh ft : Int) : E := (e.tk0 fl fh ft).on
def E.f0 (e : E) (v : Bool) (n : Nat) : E :=
  if v then ⟨e.k, e.low + (e.rng - e.rng / 2 ^ n), e.rng / 2 ^ n, e.r, e.raw⟩ else ⟨e.k, e.low, e.rng - e.rng / 2 ^ n, e.r, e.raw⟩
def E.fl (e : E) (v : Bool) (n : Nat) : E := (e.f0 v n).on
def E.bt (e : E) (v : Int) (n : Nat) : E := ⟨e.k, e.low, e.rng, e.r + n, e.raw + v * 2 ^ e.r⟩
structure Place (fl fh ft : Int) : Prop where
  t0 : 1 ≤ ft
  t1 : ft ≤ 65536
  a : 0 ≤ fl
  b : fl < fh
  c : fh ≤ ft
theorem E.tk0_facts {e : E} (h : e.Ok) {fl fh ft : Int} (p : Place fl fh ft) :
    1 ≤ e.rng / ft ∧ e.rng / ft * ft ≤ e.rng ∧ 0 ≤ e.rng / ft * (ft - fh) ∧ e.rng / ft * (ft - fh) + e.rng / ft * (fh - fl) = e.rng / ft * (ft - fl) ∧ e.rng / ft * (ft - fl) + e.rng / ft * fl = e.rng / ft * ft ∧ 1 ≤ e.rng / ft * (fh - fl) ∧ 0 ≤ e.rng / ft * fl := by
  obtain ⟨t0, t1, a, b, c⟩ := p
  obtain ⟨e0, e1, e2⟩ := e_facts h.g t0 t1
  generalize e.rng / ft = s at *
  refine ⟨e0, e1, Int.mul_nonneg (by omega) (by omega), ?_, ?_, ?_, Int.mul_nonneg (by omega) (by omega)⟩
  · rw [← Int.mul_add]; congr 1; omega
  · rw [← Int.mul_add]; congr 1; omega
  · have : 1 * 1 ≤ s * (fh - fl) := Int.mul_le_mul e0 (by omega) (by omega) (by omega)
    omega
theorem E.tk0_pre {e : E} (h : e.Ok) {fl fh ft : Int} (p : Place fl fh ft) : (e.tk0 fl fh ft).Pre := by
  obtain ⟨k1, k2, k3, k4, k5, k6, k7⟩ := E.tk0_facts h p
  obtain ⟨⟨h1, h2, h3, h4, h5, h6⟩, h7⟩ := h
  unfold E.tk0
  split
  · exact ⟨by simp only; omega, by simp only; omega, by simp only; omega, by simp only; omega, h5, h6⟩
  · have : fl = 0 := by have := p.a; omega
    subst this
    simp only [Int.sub_zero] at *
    exact ⟨by simp only; omega, by simp only; omega, by simp only; omega, by simp only; omega, h5, h6⟩
theorem E.tk_ok {e : E} (h : e.Ok) {fl fh ft : Int} (p : Place fl fh ft) : (e.tk fl fh ft).Ok := E.on_ok (E.tk0_pre h p)
theorem E.bt_ok {e : E} (h : e.Ok) {v : Int} {n : Nat} (v0 : 0 ≤ v) (v1 : v < 2 ^ n) : (e.bt v n).Ok := by
  obtain ⟨⟨h1, h2, h3, h4, h5, h6⟩, h7⟩ := h
  have hp := p2pos e.r
  refine ⟨⟨h1, h2, h3, h4, ?_, ?_⟩, h7⟩
  · have := Int.mul_nonneg v0 (show 0 ≤ (2 : Int) ^ e.r by omega)
    simp only [E.bt]; omega
  · simp only [E.bt]
    rw [Int.pow_add]
    have : v * 2 ^ e.r ≤ (2 ^ n - 1) * 2 ^ e.r := Int.mul_le_mul_of_nonneg_right (by omega) (by omega)
    rw [Int.sub_mul, Int.one_mul, Int.mul_comm (2 ^ n)] at this
    omega
def E.In (b : List Int) (e : E) : Prop := e.low ≤ cp b (e.k + 4) / 2 ∧ cp b (e.k + 4) / 2 < e.low + e.rng
def E.rd (b : List Int) (e : E) : Q := ⟨e.rng, e.low + e.rng - 1 - cp b (e.k + 4) / 2, nb b (e.k + 3), e.k + 4⟩
theorem cp_half {b : List Int} (hb : Bytes b) (m : Nat) : cp b (m + 2) / 2 = cp b (m + 1) / 2 * 256 + (nb b m * 256 + nb b (m + 1)) / 2 % 256 := by
  have h1 := nb_range hb m
  have h2 := nb_range hb (m + 1)
  simp only [cp]
  generalize cp b m = x
  generalize nb b m = y at *
  generalize nb b (m + 1) = z at *
  omega
theorem E.step_in {b : List Int} (hb : Bytes b) {e : E} : e.step.In b ↔ e.In b := by
  have := cp_half hb (e.k + 3)
  simp only [E.In, E.step]
  rw [show e.k + 1 + 4 = e.k + 3 + 2 by omega, this, show e.k + 3 + 1 = e.k + 4 by omega]
  generalize (nb b (e.k + 3) * 256 + nb b (e.k + 4)) / 2 = y
  generalize cp b (e.k + 4) / 2 = x
  omega
theorem E.step_rd {b : List Int} (hb : Bytes b) {e : E} : e.step.rd b = (e.rd b).step b := by
  have := cp_half hb (e.k + 3)
  simp only [E.rd, E.step, Q.step]
  rw [show e.k + 1 + 4 = e.k + 3 + 2 by omega, this, show e.k + 3 + 1 = e.k + 4 by omega, show e.k + 1 + 3 = e.k + 4 by omega, show e.k + 4 + 1 = e.k + 3 + 2 by omega]
  congr 1
  generalize (nb b (e.k + 3) * 256 + nb b (e.k + 4)) / 2 = y
  generalize cp b (e.k + 4) / 2 = x
  omega
theorem E.norm_in {b : List Int} (hb : Bytes b) : ∀ (n : Nat) (e : E), (E.norm n e).In b ↔ e.In b
  | 0, e => Iff.rfl
  | n + 1, e => by
    simp only [E.norm]
    split
    · rw [E.norm_in hb n, E.step_in hb]
    · exact Iff.rfl
theorem E.norm_rd {b : List Int} (hb : Bytes b) : ∀ (n : Nat) (e : E), (E.norm n e).rd b = Q.norm b n (e.rd b)
  | 0, e => rfl
  | n + 1, e => by
    simp only [E.norm, Q.norm]
    have : (e.rd b).rng = e.rng := rfl
    rw [this]
    split
    · rw [E.norm_rd hb n, E.step_rd hb]
    · rfl
theorem E.on_in {b : List Int} (hb : Bytes b) (e : E) : e.on.In b ↔ e.In b := E.norm_in hb 4 e
theorem E.on_rd {b : List Int} (hb : Bytes b) (e : E) : e.on.rd b = (e.rd b).on b := E.norm_rd hb 4 e
theorem E.rd_ok {b : List Int} (hb : Bytes b) {e : E} (h : e.Ok) (hi : e.In b) : (e.rd b).Ok := by
  obtain ⟨i1, i2⟩ := hi
  have := nb_range hb (e.k + 3)
  exact ⟨h.g, h.r1, by simp only [E.rd]; omega, by simp only [E.rd]; omega, this.1, this.2⟩
theorem E.tk_in {b : List Int} (hb : Bytes b) {e : E} (h : e.Ok) {fl fh ft : Int} (p : Place fl fh ft) (hi : (e.tk fl fh ft).In b) : e.In b := by
  obtain ⟨k1, k2, k3, k4, k5, k6, k7⟩ := E.tk0_facts h p
  have hi := (E.on_in hb _).1 hi
  unfold E.tk0 at hi
  split at hi
  · obtain ⟨i1, i2⟩ := hi
    simp only at i1 i2
    exact ⟨by omega, by omega⟩
  · obtain ⟨i1, i2⟩ := hi
    simp only at i1 i2
    exact ⟨by omega, by omega⟩
theorem E.tk_rd {b : List Int} (hb : Bytes b) {e : E} (h : e.Ok) {fl fh ft : Int} (p : Place fl fh ft) (hi : (e.tk fl fh ft).In b) :
    fl ≤ (e.rd b).ch ft ∧ (e.rd b).ch ft < fh ∧ (e.tk fl fh ft).rd b = (e.rd b).tk b fl fh ft := by
  obtain ⟨k1, k2, k3, k4, k5, k6, k7⟩ := E.tk0_facts h p
  have ho := E.rd_ok hb h (E.tk_in hb h p hi)
  have hi := (E.on_in hb _).1 hi
  have hd := d_facts ho.v0 k1
  have e1 : (e.rd b).rng = e.rng := rfl
  have e2 : (e.rd b).val = e.low + e.rng - 1 - cp b (e.k + 4) / 2 := rfl
  have e3 : (e.rd b).ch ft = ft - min ((e.rd b).val / (e.rng / ft) + 1) ft := rfl
  have hch : fl ≤ (e.rd b).ch ft ∧ (e.rd b).ch ft < fh := by
    rw [e3]
    obtain ⟨d1, d2, d3, d4⟩ := hd
    generalize hs : e.rng / ft = s at *
    generalize hv : (e.rd b).val = v at *
    have hp1 := p.a
    have hp2 := p.b
    have hp3 := p.c
    unfold E.tk0 at hi
    rw [hs] at hi
    split at hi
    · obtain ⟨i1, i2⟩ := hi
      simp only at i1 i2
      have hlo : s * (ft - fh) ≤ v := by omega
      have hhi : v < s * (ft - fl) := by omega
      have g1 : ft - fh ≤ v / s := by rw [Int.le_ediv_iff_mul_le (by omega), Int.mul_comm]; exact hlo
      have g2 : v / s < ft - fl := by rw [Int.ediv_lt_iff_lt_mul (by omega), Int.mul_comm]; exact hhi
      omega
    · obtain ⟨i1, i2⟩ := hi
      simp only at i1 i2
      have hlo : s * (ft - fh) ≤ v := by omega
      have g1 : ft - fh ≤ v / s := by rw [Int.le_ediv_iff_mul_le (by omega), Int.mul_comm]; exact hlo
      omega
  refine ⟨hch.1, hch.2, ?_⟩
  unfold E.tk Q.tk
  rw [E.on_rd hb]
  congr 1
  unfold E.tk0 Q.tk0
  rw [e1]
  split
  · simp only [E.rd]
    congr 1
    omega
  · simp only [E.rd]
    congr 1
    omega
end Go.Pl
/-
  Chapter 4 in plain words: the bytes that are told at the end hold the code and the bits for the end.
  Conditions: none.
-/
namespace Go.Pl
open Go.Eng
theorem emod_two_mul {D : Int} (hD : 0 < D) (y : Int) : y % (D * 2) = y % D + (y / D % 2) * D := by
  have h1 := Int.mul_ediv_add_emod y D
  have h2 := Int.emod_nonneg y (show D ≠ 0 by omega)
  have h3 := Int.emod_lt_of_pos y hD
  have h4 : y / D = 2 * (y / D / 2) + y / D % 2 := by omega
  have h5 : y = D * 2 * (y / D / 2) + (y % D + (y / D % 2) * D) := by
    have : D * (y / D) = D * 2 * (y / D / 2) + (y / D % 2) * D := by
      rw [Int.mul_assoc, Int.mul_comm (y / D % 2), ← Int.mul_add, ← h4]
    omega
  have h6 : y / D % 2 = 0 ∨ y / D % 2 = 1 := by omega
  have h7 : 0 ≤ y % D + (y / D % 2) * D ∧ y % D + (y / D % 2) * D < D * 2 := by
    rcases h6 with h6 | h6 <;> rw [h6] <;> omega
  have h8 : y % (D * 2) = (D * 2 * (y / D / 2) + (y % D + (y / D % 2) * D)) % (D * 2) := congrArg (· % (D * 2)) h5
  rw [h8, Int.add_comm, Int.add_mul_emod_self_left]
  exact Int.emod_eq_of_lt h7.1 h7.2
theorem tb_get : ∀ (k : Nat) (n : Int) (i : Nat), i < k → (tb k n).getD i 0 = n / 256 ^ (k - 1 - i) % 256
  | 0, n, i, h => by omega
  | k + 1, n, i, h => by
    simp only [tb]
    rw [List.getD_eq_getElem?_getD]
    by_cases hi : i < k
    · rw [List.getElem?_append_left (by rw [tb_len]; exact hi), ← List.getD_eq_getElem?_getD, tb_get k _ i hi, show k + 1 - 1 - i = (k - 1 - i) + 1 by omega, Int.pow_succ, Int.mul_comm,
        Int.ediv_ediv_of_nonneg (by omega)]
    · have : i = k := by omega
      subst this
      rw [List.getElem?_append_right (by rw [tb_len]; omega), tb_len]
      simp
theorem tb_split (a : Nat) : ∀ (b : Nat) (n : Int), tb (a + b) n = tb a (n / 256 ^ b) ++ tb b n
  | 0, n => by simp [tb]
  | b + 1, n => by
    rw [← Nat.add_assoc]
    simp only [tb]
    rw [tb_split a b, List.append_assoc, Int.ediv_ediv_of_nonneg (by omega), Int.pow_succ, Int.mul_comm 256]
theorem tb_take {n K : Nat} (h : n ≤ K) (A : Int) : (tb K A).take n = tb n (A / 256 ^ (K - n)) := by
  have := tb_split n (K - n) A
  rw [show n + (K - n) = K by omega] at this
  rw [this, List.take_left' (tb_len _ _)]
theorem tb_drop {n K : Nat} (h : n ≤ K) (A : Int) : (tb K A).drop n = tb (K - n) A := by
  have := tb_split n (K - n) A
  rw [show n + (K - n) = K by omega] at this
  rw [this, List.drop_left' (tb_len _ _)]
theorem tb_zeros : ∀ (m : Nat) (A : Int), A % 256 ^ m = 0 → tb m A = zeros m
  | 0, _, _ => rfl
  | m + 1, A, h => by
    have hp := p256pos m
    obtain ⟨q, hq⟩ := Int.dvd_of_emod_eq_zero h
    rw [Int.pow_succ] at hq
    have e1 : A = 256 * (256 ^ m * q) := by rw [hq, Int.mul_comm (256 ^ m), Int.mul_assoc]
    have h1 : A % 256 = 0 := by omega
    have h2 : A / 256 = 256 ^ m * q := by omega
    simp only [tb]
    rw [tb_zeros m (A / 256) (by rw [h2]; exact Int.mul_emod_right _ _), h1]
    simp [zeros, List.replicate_succ']
theorem tb_some : ∀ (m : Nat) (A : Int), A % 256 ^ m ≠ 0 → ∃ x ∈ tb m A, x ≠ 0
  | 0, A, h => by simp at h
  | m + 1, A, h => by
    have hp := p256pos m
    simp only [tb]
    by_cases h1 : A % 256 = 0
    · have : A / 256 % 256 ^ m ≠ 0 := by
        intro h2
        apply h
        obtain ⟨q, hq⟩ := Int.dvd_of_emod_eq_zero h2
        have : A = 256 ^ (m + 1) * q := by
          rw [Int.pow_succ, Int.mul_comm (256 ^ m), Int.mul_assoc, ← hq]
          omega
        rw [this]
        exact Int.mul_emod_right _ _
      obtain ⟨x, hx, hx0⟩ := tb_some m _ this
      exact ⟨x, by simp [hx], hx0⟩
    · exact ⟨A % 256, by simp, h1⟩
theorem eb_tb {k j : Nat} (h : j < k) (n : Int) : eb (tb k n) j = n / 256 ^ j % 256 := by
  unfold eb
  rw [tb_len, if_pos h, tb_get k n _ (by omega)]
  congr 3
  omega
theorem byte_bit (y : Int) {r : Nat} (h : r < 8) : y % 256 / 2 ^ r % 2 = y / 2 ^ r % 2 := by
  have : r = 0 ∨ r = 1 ∨ r = 2 ∨ r = 3 ∨ r = 4 ∨ r = 5 ∨ r = 6 ∨ r = 7 := by omega
  have e2 : (2 : Int) ^ 2 = 4 := rfl
  have e3 : (2 : Int) ^ 3 = 8 := rfl
  have e4 : (2 : Int) ^ 4 = 16 := rfl
  have e5 : (2 : Int) ^ 5 = 32 := rfl
  have e6 : (2 : Int) ^ 6 = 64 := rfl
  have e7 : (2 : Int) ^ 7 = 128 := rfl
  rcases this with rfl | rfl | rfl | rfl | rfl | rfl | rfl | rfl
  · simp only [Int.pow_zero]; omega
  · simp only [Int.pow_succ, Int.pow_zero]; omega
  · rw [e2]; omega
  · rw [e3]; omega
  · rw [e4]; omega
  · rw [e5]; omega
  · rw [e6]; omega
  · rw [e7]; omega
theorem pow_split (p : Nat) : (2 : Int) ^ p = 256 ^ (p / 8) * 2 ^ (p % 8) := by
  rw [p256_2, ← Int.pow_add]
  congr 1
  omega
theorem bitE_tb {k p : Nat} (h : p < 8 * k) (n : Int) : bitE (tb k n) p = n / 2 ^ p % 2 := by
  unfold bitE
  rw [eb_tb (by omega), byte_bit _ (by omega), pow_split p, Int.ediv_ediv_of_nonneg (by have := p256pos (p / 8); omega)]
theorem bsum_tb {k P : Nat} (X : Int) : ∀ n, P + n ≤ 8 * k → bsum (tb k X) P n = X / 2 ^ P % 2 ^ n
  | 0, _ => by simp [bsum]
  | n + 1, h => by
    simp only [bsum]
    rw [bsum_tb X n (by omega), bitE_tb (by omega), Int.pow_succ, emod_two_mul (p2pos n), Int.pow_add, Int.ediv_ediv_of_nonneg (by have := p2pos P; omega)]
structure E.Fit (b : List Int) (e : E) : Prop where
  i : e.In b
  s : bsum b 0 e.r = e.raw
theorem E.bt_fit {b : List Int} {e : E} (h : e.Ok) {v : Int} {n : Nat} (v0 : 0 ≤ v) (v1 : v < 2 ^ n) (hf : (e.bt v n).Fit b) : e.Fit b ∧ bsum b e.r n = v := by
  obtain ⟨hi, hs⟩ := hf
  simp only [E.bt] at hs
  rw [bsum_split, Nat.zero_add] at hs
  obtain ⟨r0, r1⟩ := bsum_range b 0 e.r
  have hp := p2pos e.r
  have w0 := h.w0
  have w1 := h.w1
  have e1 : bsum b 0 e.r = e.raw := by
    have a1 : (bsum b 0 e.r + 2 ^ e.r * bsum b e.r n) % 2 ^ e.r = bsum b 0 e.r := by rw [Int.add_mul_emod_self_left]; exact Int.emod_eq_of_lt r0 r1
    have a2 : (e.raw + v * 2 ^ e.r) % 2 ^ e.r = e.raw := by rw [Int.add_mul_emod_self_right]; exact Int.emod_eq_of_lt w0 w1
    rw [hs, a2] at a1
    exact a1.symm
  refine ⟨⟨hi, e1⟩, ?_⟩
  have : 2 ^ e.r * bsum b e.r n = 2 ^ e.r * v := by rw [Int.mul_comm _ v]; omega
  exact Int.eq_of_mul_eq_mul_left (by omega) this
theorem E.tk0_same (e : E) (fl fh ft : Int) : (e.tk0 fl fh ft).r = e.r ∧ (e.tk0 fl fh ft).raw = e.raw ∧ (e.tk0 fl fh ft).k = e.k := by unfold E.tk0; split <;> simp
theorem E.on_same (e : E) : e.on.r = e.r ∧ e.on.raw = e.raw ∧ e.k ≤ e.on.k ∧ e.on.k ≤ e.k + 4 := E.norm_same 4 e
theorem E.tk_same (e : E) (fl fh ft : Int) : (e.tk fl fh ft).r = e.r ∧ (e.tk fl fh ft).raw = e.raw ∧ e.k ≤ (e.tk fl fh ft).k ∧ (e.tk fl fh ft).k ≤ e.k + 4 := by
  have h1 := E.on_same (e.tk0 fl fh ft)
  have h2 := E.tk0_same e fl fh ft
  unfold E.tk
  rw [h2.1, h2.2.1, h2.2.2] at h1
  exact h1
theorem E.tk_fit {b : List Int} (hb : Bytes b) {e : E} (h : e.Ok) {fl fh ft : Int} (p : Place fl fh ft) (hf : (e.tk fl fh ft).Fit b) : e.Fit b := by
  obtain ⟨h1, h2, _⟩ := E.tk_same e fl fh ft
  exact ⟨E.tk_in hb h p hf.i, by have := hf.s; rwa [h1, h2] at this⟩
def E.top (e : E) (n : Nat) : Int :=
  if e.k + 4 ≤ n then 2 * e.low * 256 ^ (n - (e.k + 4)) else 2 * e.low / 256 ^ (e.k + 4 - n) + (if 2 * e.low % 256 ^ (e.k + 4 - n) = 0 then 0 else 1)
def E.mid (e : E) (n : Nat) : Int := e.top n - e.top n % 2 ^ e.r + e.raw
def E.out (e : E) (n : Nat) : Int := if e.mid n < e.top n then e.mid n + 2 ^ e.r else e.mid n
theorem E.out_facts {e : E} (h : e.Ok) (n : Nat) : e.top n ≤ e.out n ∧ e.out n < e.top n + 2 ^ e.r ∧ e.out n % 2 ^ e.r = e.raw ∧ (0 ≤ e.top n → 0 ≤ e.mid n) := by
  have hp := p2pos e.r
  have w0 := h.w0
  have w1 := h.w1
  have m0 := Int.emod_nonneg (e.top n) (show (2 : Int) ^ e.r ≠ 0 by omega)
  have m1 := Int.emod_lt_of_pos (e.top n) hp
  have hm : e.mid n % 2 ^ e.r = e.raw := by
    unfold E.mid
    have := Int.mul_ediv_add_emod (e.top n) (2 ^ e.r)
    rw [show e.top n - e.top n % 2 ^ e.r + e.raw = e.raw + 2 ^ e.r * (e.top n / 2 ^ e.r) by omega, Int.add_mul_emod_self_left]
    exact Int.emod_eq_of_lt w0 w1
  have hmid : e.mid n = e.top n - e.top n % 2 ^ e.r + e.raw := rfl
  refine ⟨?_, ?_, ?_, fun h0 => ?_⟩
  · unfold E.out; split <;> omega
  · unfold E.out; split <;> omega
  · unfold E.out; split
    · rw [Int.add_emod_right]; exact hm
    · exact hm
  · have := Int.mul_ediv_add_emod (e.top n) (2 ^ e.r)
    have h3 : 0 ≤ 2 ^ e.r * (e.top n / 2 ^ e.r) := Int.mul_nonneg (by omega) (Int.ediv_nonneg h0 (by omega))
    omega
theorem tell_pow {e : E} (h : e.Ok) {n : Nat} (ht : e.tell ≤ 8 * (n : Int)) : 33 + 8 * e.k + e.r ≤ 8 * n + 32 ∧ (2 : Int) ^ (33 + 8 * e.k + e.r - 8 * n) ≤ 2 * e.rng := by
  obtain ⟨k, k1, k2, k3⟩ := bl_spec h.r0
  have hk : k ≤ 31 := by
    rcases Nat.lt_or_ge 31 k with hk | hk
    · have := p2le (a := 32) (b := k) (by omega)
      have e32 : (2 : Int) ^ 32 = 4294967296 := rfl
      have := h.r1
      omega
    · exact hk
  unfold E.tell E.count at ht
  rw [k1] at ht
  refine ⟨by omega, ?_⟩
  have := p2le (a := 33 + 8 * e.k + e.r - 8 * n) (b := k + 1) (by omega)
  rw [Int.pow_succ] at this
  omega
theorem E.out_fit {e : E} (h : e.Ok) {n : Nat} (ht : e.tell ≤ 8 * (n : Int)) : e.r ≤ 8 * n ∧ 0 ≤ e.top n ∧ 0 ≤ e.out n ∧ e.out n < 256 ^ n ∧ e.Fit (tb n (e.out n)) := by
  obtain ⟨t1, t2⟩ := tell_pow h ht
  obtain ⟨o1, o2, o3, _⟩ := E.out_facts h n
  have hr := h.r0
  have hl0 := h.l0
  have hl1 := h.l1
  have hpr := p2pos e.r
  have hrn : e.r ≤ 8 * n := by omega
  have hbl : e.tell > e.r := by
    have := bl_le (x := e.rng) (n := 32) (by show e.rng < 4294967296; have := h.r1; omega)
    unfold E.tell E.count
    omega
  have key : 0 ≤ e.top n ∧ e.out n < 256 ^ n ∧ e.In (tb n (e.out n)) := by
    by_cases hc : e.k + 4 ≤ n
    · have etop : e.top n = 2 * e.low * 256 ^ (n - (e.k + 4)) := by unfold E.top; rw [if_pos hc]
      have hD := p256pos (n - (e.k + 4))
      have hpow : (256 : Int) ^ n = 256 ^ (e.k + 4) * 256 ^ (n - (e.k + 4)) := by rw [← Int.pow_add]; congr 1; omega
      have hrD : (2 : Int) ^ e.r ≤ e.rng * 256 ^ (n - (e.k + 4)) := by
        have h2 : (2 : Int) ^ (e.r + 1) ≤ 2 ^ (33 + 8 * e.k + e.r - 8 * n) * 256 ^ (n - (e.k + 4)) := by
          rw [p256_2, ← Int.pow_add]
          exact p2le (by omega)
        have h3 : (2 : Int) ^ (33 + 8 * e.k + e.r - 8 * n) * 256 ^ (n - (e.k + 4)) ≤ 2 * e.rng * 256 ^ (n - (e.k + 4)) := Int.mul_le_mul_of_nonneg_right t2 (by omega)
        rw [Int.pow_succ] at h2
        rw [Int.mul_assoc] at h3
        omega
      generalize eD : (256 : Int) ^ (n - (e.k + 4)) = D at *
      have hup : e.out n < 2 * (e.low + e.rng) * D := by
        have : 2 * (e.low + e.rng) * D = 2 * e.low * D + 2 * (e.rng * D) := by rw [Int.mul_add, Int.add_mul, Int.mul_assoc 2 e.rng]
        omega
      have hcap : 2 * (e.low + e.rng) * D ≤ 256 ^ n := by
        rw [hpow]
        refine Int.mul_le_mul_of_nonneg_right ?_ (by omega)
        rw [Int.pow_add, show (256 : Int) ^ 4 = 4294967296 from rfl]
        omega
      have t0 : 0 ≤ e.top n := by rw [etop]; exact Int.mul_nonneg (by omega) (by omega)
      have hX0 : 0 ≤ e.out n := by omega
      have hX1 : e.out n < 256 ^ n := by omega
      have hcp : cp (tb n (e.out n)) (e.k + 4) = e.out n / 256 ^ (n - (e.k + 4)) := by
        have := cp_less (tb_bytes n (e.out n)) (e.k + 4) (n - (e.k + 4))
        rw [show e.k + 4 + (n - (e.k + 4)) = n by omega, cp_tb n _ hX0 hX1] at this
        exact this
      refine ⟨t0, hX1, ?_⟩
      have etop2 : 2 * e.low * 256 ^ (n - (e.k + 4)) ≤ e.out n := by rw [eD]; omega
      have hup2 : e.out n < 2 * (e.low + e.rng) * 256 ^ (n - (e.k + 4)) := by rw [eD]; omega
      have q1 : 2 * e.low ≤ e.out n / 256 ^ (n - (e.k + 4)) := by rw [Int.le_ediv_iff_mul_le (p256pos _)]; exact etop2
      have q2 : e.out n / 256 ^ (n - (e.k + 4)) < 2 * (e.low + e.rng) := by rw [Int.ediv_lt_iff_lt_mul (p256pos _)]; exact hup2
      unfold E.In
      rw [hcp]
      generalize e.out n / 256 ^ (n - (e.k + 4)) = z at *
      omega
    · have hD := p256pos (e.k + 4 - n)
      have hpow : (256 : Int) ^ (e.k + 4) = 256 ^ n * 256 ^ (e.k + 4 - n) := by rw [← Int.pow_add]; congr 1; omega
      have hrD : (2 : Int) ^ e.r * 256 ^ (e.k + 4 - n) ≤ e.rng := by
        have h2 : (2 : Int) ^ (33 + 8 * e.k + e.r - 8 * n) = 2 ^ e.r * 256 ^ (e.k + 4 - n) * 2 := by
          rw [p256_2, ← Int.pow_add, ← Int.pow_succ]
          congr 1
          omega
        rw [h2] at t2
        omega
      have hdiv := Int.mul_ediv_add_emod (2 * e.low) (256 ^ (e.k + 4 - n))
      have hm0 := Int.emod_nonneg (2 * e.low) (show (256 : Int) ^ (e.k + 4 - n) ≠ 0 by omega)
      have hm1 := Int.emod_lt_of_pos (2 * e.low) hD
      have hq0 : 0 ≤ 2 * e.low / 256 ^ (e.k + 4 - n) := Int.ediv_nonneg (by omega) (by omega)
      have etop : e.top n = 2 * e.low / 256 ^ (e.k + 4 - n) + (if 2 * e.low % 256 ^ (e.k + 4 - n) = 0 then 0 else 1) := by unfold E.top; rw [if_neg hc]
      have hcap : 2 * e.low + 2 * e.rng ≤ 256 ^ (e.k + 4) := by
        rw [Int.pow_add, show (256 : Int) ^ 4 = 4294967296 from rfl]
        omega
      have hcp : cp (tb n (e.out n)) (e.k + 4) = cp (tb n (e.out n)) n * 256 ^ (e.k + 4 - n) := by
        have := cp_more (b := tb n (e.out n)) (e.k + 4 - n)
        rw [tb_len, show n + (e.k + 4 - n) = e.k + 4 by omega] at this
        exact this
      generalize hDe : (256 : Int) ^ (e.k + 4 - n) = D at *
      have t0 : 0 ≤ e.top n := by rw [etop]; split <;> omega
      have hA : 2 * e.low ≤ e.top n * D ∧ e.top n * D < 2 * e.low + D := by
        rw [etop, Int.add_mul, Int.mul_comm (2 * e.low / D) D]
        split
        · omega
        · omega
      have hX : e.top n * D ≤ e.out n * D ∧ e.out n * D ≤ (e.top n + 2 ^ e.r - 1) * D :=
        ⟨Int.mul_le_mul_of_nonneg_right o1 (by omega), Int.mul_le_mul_of_nonneg_right (by omega) (by omega)⟩
      rw [Int.sub_mul, Int.add_mul, Int.one_mul] at hX
      have hX1 : e.out n < 256 ^ n := by
        rw [hpow] at hcap
        have : e.out n * D < 256 ^ n * D := by omega
        exact Int.lt_of_mul_lt_mul_right this (by omega)
      refine ⟨t0, hX1, ?_⟩
      rw [cp_tb n _ (by omega) hX1] at hcp
      unfold E.In
      rw [hcp]
      omega
  obtain ⟨k1, k2, k3⟩ := key
  refine ⟨hrn, k1, by omega, k2, k3, ?_⟩
  rw [bsum_tb _ _ (by omega)]
  simpa using o3
end Go.Pl
/-
  Chapter 4 in plain words: what renc's functions come to (the register, symbols, flags, bits, numbers).
  Conditions: none.
-/
namespace Go.Pl
open Go.Eng Go.Proofs
theorem set_mid {A B : List Int} {x y : Int} {n : Nat} (h : A.length = n) : (A ++ x :: B).set n y = A ++ y :: B := by
  subst h
  rw [List.set_append_right _ _ (Nat.le_refl _)]
  simp
theorem get_mid {A B : List Int} {x : Int} {n : Nat} (h : A.length = n) : (A ++ x :: B).getD n 0 = x := by
  subst h
  simp [List.getD_eq_getElem?_getD]
section
variable {N : Nat}
theorem carry_loop {ev er erb ec : Int} {et ew : List Int} {val rng rb c : Int} {raw : List Int} : ∀ (nn j : Nat) (m : Int) (suf : List Int), 0 ≤ m → m + 1 < 256 ^ j → j < nn → j < 1099511627776 →
    Rc.ecarry.loop1 N nn ev er erb ec et ew val rng rb c raw ((j : Int) - 1) (tb j m ++ suf) = some (.inr (val, rng, rb, c, tb j (m + 1) ++ suf, raw))
  | 0, j, m, suf, h0, h1, h2, _ => by omega
  | nn + 1, 0, m, suf, h0, h1, h2, _ => by simp at h1; omega
  | nn + 1, j + 1, m, suf, h0, h1, h2, h3 => by
    have e1 : tb (j + 1) m ++ suf = tb j (m / 256) ++ (m % 256) :: suf := by simp [tb]
    unfold Rc.ecarry.loop1
    simp only [br_dec, br_bne, chkI_same, chkL_same]
    rw [show (((j + 1 : Nat) : Int)) - 1 = (j : Int) by omega, if_pos (by omega), e1, Int.toNat_natCast, get_mid (tb_len _ _), set_mid (tb_len _ _), get_mid (tb_len _ _), u8_mod]
    rw [chk_pos (by simp [tb_len]; omega), chk_pos (by simp [tb_len]; omega), chk_pos (by simp [tb_len]; omega)]
    rw [Int.pow_succ] at h1
    by_cases hx : (m % 256 + 1) % 256 = 0
    · rw [if_pos hx, i64 (by omega) (by omega), carry_loop nn j (m / 256) _ (by omega) (by omega) (by omega) (by omega)]
      have : tb (j + 1) (m + 1) ++ suf = tb j (m / 256 + 1) ++ ((m % 256 + 1) % 256) :: suf := by
        simp only [tb, List.append_assoc, List.singleton_append]
        rw [show (m + 1) / 256 = m / 256 + 1 by omega, show (m + 1) % 256 = (m % 256 + 1) % 256 by omega]
      rw [this]
    · rw [if_neg hx, omap_of]
      have : tb (j + 1) (m + 1) ++ suf = tb j (m / 256) ++ ((m % 256 + 1) % 256) :: suf := by
        simp only [tb, List.append_assoc, List.singleton_append]
        rw [show (m + 1) / 256 = m / 256 by omega, show (m + 1) % 256 = (m % 256 + 1) % 256 by omega]
      rw [this]
theorem ecarry_F {val rng rb c : Int} {raw : List Int} {k : Nat} {T : Int} (h0 : 0 ≤ T) (h1 : T + 1 < 256 ^ k) (hk : k < 1099511627776) (hN : k < N) :
    Rc.ecarry.F N val rng rb c (tb k T) raw = some (val, rng, rb, c, tb k (T + 1), raw) := by
  unfold Rc.ecarry.F
  have h := carry_loop (N := N) (ev := val) (er := rng) (erb := rb) (ec := c) (et := tb k T) (ew := raw) (val := val) (rng := rng) (rb := rb) (c := c) (raw := raw) N k T [] h0 h1 hN hk
  simp only [List.append_nil] at h
  rw [tb_len, i64 (by omega) (by omega), h, osum_inr]
theorem p23 : (2 : Int) ^ min (Int.toNat (23 : Int)) IntKind.u64.bits = 8388608 := rfl
theorem E.step_told {e : E} (h0 : 0 ≤ e.low) : e.step.told = e.told ++ [e.val / 8388608] := by
  have : e.low * 256 / 2147483648 = e.low / 2147483648 * 256 + e.low % 2147483648 / 8388608 := by omega
  simp only [E.told, E.step, E.val]
  rw [tb_snoc _ _ (by omega) (by omega), this]
theorem E.step_val (e : E) : e.step.val = e.val * 256 % 2147483648 := by
  simp only [E.val, E.step]
  omega
theorem enorm_loop {rb : Int} {raw : List Int} : ∀ (nn n : Nat) (e : E) (c : Int), e.Pre → 8388608 < e.rng * 256 ^ n → 0 ≤ c → c + 8 * n < 1152921504606846976 → e.k + n < 1099511627776 → n < nn →
    Rc.enorm.loop3 N nn rb raw e.val e.rng c e.told = some ((E.norm n e).val, (E.norm n e).rng, c + 8 * (((E.norm n e).k - e.k : Nat) : Int), (E.norm n e).told)
  | 0, n, e, c, h, hn, hc0, hc1, hk, h0 => by omega
  | nn + 1, n, e, c, h, hn, hc0, hc1, hk, h0 => by
    unfold Rc.enorm.loop3
    simp only [br_dec, chkI_same, chkL_same, p8, p23]
    have hr1 := h.r1
    have hr0 := h.r0
    have hv : 0 ≤ e.val ∧ e.val < 2147483648 := by unfold E.val; omega
    by_cases hr : e.rng ≤ 8388608
    · rw [if_pos hr]
      cases n with
      | zero => simp at hn; omega
      | succ n =>
        have hs := h.step hr
        have ih := enorm_loop (rb := rb) (raw := raw) nn n e.step (c + 8) hs (by
          simp only [E.step]
          rw [Int.pow_succ] at hn
          rw [Int.mul_assoc, Int.mul_comm 256]
          exact hn) (by omega) (by omega) (by simp only [E.step]; omega) (by omega)
        rw [bits_u64, fdiv_ediv (by omega), u8 (x := e.val / 8388608) (by omega) (by omega), u64 (x := e.val * 256) (by omega) (by omega), and31 (by omega) (by omega), u64 (x := e.val * 256 % 2147483648) (by omega) (by omega),
          u64 (x := e.rng * 256) (by omega) (by omega), i64 (x := c + 8) (by omega) (by omega), chk_pos (by simp only [E.told, tb_len, List.length_singleton]; omega), ← E.step_told h.l0, ← E.step_val]
        rw [show e.rng * 256 = e.step.rng from rfl, ih]
        have hsame := E.norm_same n e.step
        have : (E.norm (n + 1) e) = E.norm n e.step := by simp only [E.norm]; rw [if_pos hr]
        rw [this]
        simp only [E.step] at hsame ⊢
        congr 4
        omega
    · rw [if_neg hr, E.norm_stop (by omega)]
      simp
theorem enorm_F {e : E} (h : e.Pre) {T v : Int} (hT : 0 ≤ T) (v0 : 0 ≤ v) (v1 : v < 4294967296) (hl : T * 2147483648 + v = e.low) {rb c : Int} {raw : List Int} (hc0 : 0 ≤ c) (hc1 : c < 1152921504606846900)
    (hk : e.k < 1099511627770) (hN : e.k + 300 ≤ N) :
    Rc.enorm.F N v e.rng rb c (tb e.k T) raw = some (e.on.val, e.on.rng, rb, c + 8 * ((e.on.k - e.k : Nat) : Int), raw, e.on.told) := by
  unfold Rc.enorm.F
  have hloop := enorm_loop (N := N) (rb := rb) (raw := raw) N 4 e c h (by have := h.r0; omega) hc0 (by omega) (by omega) (by omega)
  have hr0 := h.r0
  have hl1 := h.l1
  rw [br_dec]
  by_cases hv : v > 2147483647
  · have e1 : T + 1 = e.low / 2147483648 := by omega
    have e2 : v % 2147483648 = e.val := by unfold E.val; omega
    rw [if_pos hv, ecarry_F hT (by omega) (by omega) (by omega), obind_of]
    simp only
    rw [bits_u64, and31 v0 (by omega), u64 (x := v % 2147483648) (by omega) (by omega), e2, e1]
    have : tb e.k (e.low / 2147483648) = e.told := rfl
    rw [this, hloop, obind_of]
    rfl
  · have e1 : T = e.low / 2147483648 := by omega
    have e2 : v = e.val := by unfold E.val; omega
    rw [if_neg hv, e1, e2]
    have : tb e.k (e.low / 2147483648) = e.told := rfl
    rw [this, hloop, obind_of]
    rfl
structure E.Lim (N : Nat) (e : E) : Prop where
  k : e.k < 1099511627000
  r : e.r < 1099511627000
  N : e.k + 400 ≤ N
theorem E.val_range (e : E) : 0 ≤ e.val ∧ e.val < 2147483648 := by unfold E.val; omega
theorem E.count_on {e d : E} (hk : e.k ≤ d.k) (hr : d.r = e.r) : e.count + 8 * ((d.k - e.k : Nat) : Int) = d.count := by unfold E.count; rw [hr]; omega
theorem etake_F {e : E} (h : e.Ok) (hl : e.Lim N) {fl fh ft : Int} (p : Place fl fh ft) {raw : List Int} :
    Rc.etake.F N fl fh ft e.val e.rng e.r e.count e.told raw = some ((e.tk fl fh ft).val, (e.tk fl fh ft).rng, (e.r : Int), (e.tk fl fh ft).count, raw, (e.tk fl fh ft).told) := by
  unfold Rc.etake.F
  obtain ⟨k1, k2, k3, k4, k5, k6, k7⟩ := E.tk0_facts h p
  obtain ⟨a1, a2, a3, a4, a5⟩ := id p
  have k0 := (e_facts h.g a1 a2).2.2
  have hr1 := h.r1
  have hg := h.g
  have hpre := E.tk0_pre h p
  obtain ⟨v0, v1⟩ := e.val_range
  have hsame := E.tk_same e fl fh ft
  have hcnt := E.count_on (e := e) (d := e.tk fl fh ft) hsame.2.2.1 hsame.1
  obtain ⟨l1, l2, l3⟩ := hl
  have hcount : 0 ≤ e.count ∧ e.count < 1152921504606846900 := by unfold E.count; omega
  have hl0 := h.l0
  rw [chk_pos (by omega), br_dec, tdiv_ediv (by omega), u64 (x := e.rng / ft) (by omega) (by omega), u64 (x := ft - fl) (by omega) (by omega), u64 (x := fh - fl) (by omega) (by omega), u64 (x := ft - fh) (by omega) (by omega)]
  have hdiv : e.low / 2147483648 * 2147483648 + e.val = e.low := by unfold E.val; omega
  by_cases hf : fl > 0
  · have hf' : 0 < fl := hf
    have et : e.tk0 fl fh ft = ⟨e.k, e.low + (e.rng - e.rng / ft * (ft - fl)), e.rng / ft * (fh - fl), e.r, e.raw⟩ := by unfold E.tk0; rw [if_pos hf']
    rw [if_pos hf, u64 (x := e.rng / ft * (ft - fl)) (by omega) (by omega), u64 (x := e.rng - _) (by omega) (by omega), u64 (x := e.val + _) (by omega) (by omega), u64 (x := e.rng / ft * (fh - fl)) (by omega) (by omega)]
    rw [et] at hpre
    have := enorm_F (N := N) hpre (T := e.low / 2147483648) (v := e.val + (e.rng - e.rng / ft * (ft - fl))) (rb := e.r) (c := e.count) (raw := raw) (by omega) (by omega) (by omega) (by simp only; omega) hcount.1 hcount.2 (by simp only; omega) (by simp only; omega)
    simp only at this
    rw [show e.told = tb e.k (e.low / 2147483648) from rfl, this, obind_of]
    simp only
    rw [← et]
    show some ((e.tk fl fh ft).val, (e.tk fl fh ft).rng, (e.r : Int), e.count + 8 * (((e.tk fl fh ft).k - e.k : Nat) : Int), raw, (e.tk fl fh ft).told) = _
    rw [hcnt]
  · have hf' : ¬ 0 < fl := hf
    have et : e.tk0 fl fh ft = ⟨e.k, e.low, e.rng - e.rng / ft * (ft - fh), e.r, e.raw⟩ := by unfold E.tk0; rw [if_neg hf']
    rw [if_neg hf, u64 (x := e.rng / ft * (ft - fh)) (by omega) (by omega), u64 (x := e.rng - _) (by omega) (by omega)]
    rw [et] at hpre
    have := enorm_F (N := N) hpre (T := e.low / 2147483648) (v := e.val) (rb := e.r) (c := e.count) (raw := raw) (by omega) (by omega) (by omega) (by simp only; omega) hcount.1 hcount.2 (by simp only; omega) (by simp only; omega)
    simp only at this
    rw [show e.told = tb e.k (e.low / 2147483648) from rfl, this, obind_of]
    simp only
    rw [← et]
    show some ((e.tk fl fh ft).val, (e.tk fl fh ft).rng, (e.r : Int), e.count + 8 * (((e.tk fl fh ft).k - e.k : Nat) : Int), raw, (e.tk fl fh ft).told) = _
    rw [hcnt]
theorem le_snoc0 : ∀ (j : Nat) (R : Int), 0 ≤ R → R < 256 ^ j → le j R ++ [0] = le (j + 1) R
  | 0, R, h0, h1 => by
    simp at h1
    have : R = 0 := by omega
    subst this
    rfl
  | j + 1, R, h0, h1 => by
    rw [Int.pow_succ] at h1
    have := le_snoc0 j (R / 256) (by omega) (by omega)
    simp only [le, List.cons_append] at this ⊢
    rw [this]
theorem le_put {k j q : Nat} {R d : Int} (h0 : 0 ≤ R) (hR : R < 256 ^ j * 2 ^ q) (hq : q ≤ 7) (d0 : 0 ≤ d) (d1 : d ≤ 1) (hj : j < k) :
    (le k R).set j (R / 256 ^ j + d * 2 ^ q) = le k (R + d * (256 ^ j * 2 ^ q)) := by
  have hpj := p256pos j
  have hpq := p2pos q
  have hq7 : (2 : Int) ^ q ≤ 128 := p2le (b := 7) hq
  have hy0 : 0 ≤ R / 256 ^ j := Int.ediv_nonneg h0 (by omega)
  have hy1 : R / 256 ^ j < 2 ^ q := by rw [Int.ediv_lt_iff_lt_mul hpj, Int.mul_comm]; exact hR
  have hd : d * 2 ^ q ≤ 1 * 2 ^ q := Int.mul_le_mul_of_nonneg_right d1 (by omega)
  have hd0 : 0 ≤ d * 2 ^ q := Int.mul_nonneg d0 (by omega)
  apply le_ext (by simp [le_len])
  intro i hi
  simp only [List.length_set, le_len] at hi
  have e1 : d * (256 ^ j * 2 ^ q) = 256 ^ j * (d * 2 ^ q) := by rw [Int.mul_left_comm]
  rw [le_get k _ i hi, e1, List.getD_eq_getElem?_getD, List.getElem?_set]
  by_cases hij : j = i
  · subst hij
    rw [if_pos rfl, if_pos (by rw [le_len]; exact hi), Int.add_mul_ediv_left _ _ (by omega), Option.getD_some, Int.emod_eq_of_lt (by omega) (by omega)]
  · rw [if_neg hij, ← List.getD_eq_getElem?_getD, le_get k _ i hi]
    have hpi := p256pos i
    rcases Nat.lt_or_ge i j with h | h
    · have : (256 : Int) ^ j = 256 ^ i * (256 ^ (j - i - 1) * 256) := by rw [← Int.pow_succ, ← Int.pow_add]; congr 1; omega
      rw [this, Int.mul_assoc (256 ^ i), Int.add_mul_ediv_left _ _ (by omega), Int.mul_assoc (256 ^ (j - i - 1)), Int.mul_left_comm (256 ^ (j - i - 1)), Int.add_mul_emod_self_left]
    · have h2 : (256 : Int) ^ i = 256 ^ j * 256 * 256 ^ (i - j - 1) := by rw [← Int.pow_succ, ← Int.pow_add]; congr 1; omega
      have hp2 := p256pos (i - j - 1)
      have h3 : (256 : Int) ^ j * 256 * 1 ≤ 256 ^ j * 256 * 256 ^ (i - j - 1) := Int.mul_le_mul_of_nonneg_left (by omega) (by omega)
      have h4 : 256 ^ j * (d * 2 ^ q) ≤ 256 ^ j * 2 ^ q := Int.mul_le_mul_of_nonneg_left (by omega) (by omega)
      have h5 : (256 : Int) ^ j * 2 ^ q ≤ 256 ^ j * 128 := Int.mul_le_mul_of_nonneg_left hq7 (by omega)
      have h6 : 0 ≤ 256 ^ j * (d * 2 ^ q) := Int.mul_nonneg (by omega) hd0
      rw [Int.ediv_eq_zero_of_lt h0 (by omega), Int.ediv_eq_zero_of_lt (by omega) (by omega)]
theorem bit_of {v : Int} {i : Nat} (hi : i ≤ 24) : IntKind.u8.wrap (IntKind.i64.wrap ↑(BitVec.ofInt IntKind.i64.bits (v.fdiv (2 ^ min (i : Int).toNat IntKind.i64.bits)) &&& BitVec.ofInt IntKind.i64.bits 1).toNat) = v / 2 ^ i % 2 := by
  rw [bits_i64, Int.toNat_natCast, show min i 64 = i by omega, fdiv_ediv (by have := p2pos i; omega), and_mask_any (w := 64) (k := 1) (m := 1) _ rfl (by omega), show (2 : Int) ^ 1 = 2 from rfl, i64 (by omega) (by omega), u8 (by omega) (by omega)]
theorem or_bit {y d : Int} {q : Nat} (hq : q ≤ 7) (y0 : 0 ≤ y) (y1 : y < 2 ^ q) (d0 : 0 ≤ d) (d1 : d ≤ 1) :
    IntKind.u8.wrap ↑(BitVec.ofInt IntKind.u8.bits y ||| BitVec.ofInt IntKind.u8.bits (IntKind.u8.wrap (d * 2 ^ min q IntKind.u8.bits))).toNat = y + d * 2 ^ q := by
  have hpq := p2pos q
  have hq7 : (2 : Int) ^ q ≤ 128 := p2le (b := 7) hq
  have hd : d * 2 ^ q ≤ 1 * 2 ^ q := Int.mul_le_mul_of_nonneg_right d1 (by omega)
  have hd0 : 0 ≤ d * 2 ^ q := Int.mul_nonneg d0 (by omega)
  rw [bits_u8, show min q 8 = q by omega, u8 (x := d * 2 ^ q) hd0 (by omega), or_comm', or_add d0 (by show d * 2 ^ q < 256; omega) y0 y1 (by omega), u8 (by omega) (by omega)]
  omega
theorem ebits_loop {v : Int} {n : Nat} {val rng count : Int} {told : List Int} {r : Nat} {raw : Int} (hn : n ≤ 24) (w0 : 0 ≤ raw) (w1 : raw < 2 ^ r) (hr : r < 1099511627000) : ∀ (nn i : Nat), i ≤ n → n - i < nn →
    Rc.ebits.loop4 N nn v n val rng count told (i : Int) ((r + i : Nat) : Int) (le ((r + i + 7) / 8) (raw + v % 2 ^ i * 2 ^ r)) = some (((r + n : Nat) : Int), le ((r + n + 7) / 8) (raw + v % 2 ^ n * 2 ^ r))
  | 0, i, hi, h0 => by omega
  | nn + 1, i, hi, h0 => by
    unfold Rc.ebits.loop4
    simp only [br_dec, br_beq, chkI_same, chkL_same]
    by_cases hlt : i < n
    · have ih := ebits_loop (v := v) (val := val) (rng := rng) (count := count) (told := told) hn w0 w1 hr nn (i + 1) (by omega) (by omega)
      have hpi := p2pos i
      have hpr := p2pos r
      have hm0 := Int.emod_nonneg v (show (2 : Int) ^ i ≠ 0 by omega)
      have hm1 := Int.emod_lt_of_pos v hpi
      have hR0 : 0 ≤ raw + v % 2 ^ i * 2 ^ r := by have := Int.mul_nonneg hm0 (show 0 ≤ (2 : Int) ^ r by omega); omega
      have hR1 : raw + v % 2 ^ i * 2 ^ r < 256 ^ ((r + i) / 8) * 2 ^ ((r + i) % 8) := by
        rw [← pow_split, Int.pow_add]
        have : v % 2 ^ i * 2 ^ r ≤ (2 ^ i - 1) * 2 ^ r := Int.mul_le_mul_of_nonneg_right (by omega) (by omega)
        rw [Int.sub_mul, Int.one_mul, Int.mul_comm (2 ^ i)] at this
        omega
      have hnext : raw + v % 2 ^ (i + 1) * 2 ^ r = (raw + v % 2 ^ i * 2 ^ r) + v / 2 ^ i % 2 * (256 ^ ((r + i) / 8) * 2 ^ ((r + i) % 8)) := by
        rw [← pow_split, Int.pow_succ, emod_two_mul hpi, Int.add_mul, Int.pow_add, Int.mul_assoc, Int.mul_comm (2 ^ i) (2 ^ r)]
        omega
      have hd0 : 0 ≤ v / 2 ^ i % 2 ∧ v / 2 ^ i % 2 ≤ 1 := by omega
      have hpj := p256pos ((r + i) / 8)
      have hy0 : 0 ≤ (raw + v % 2 ^ i * 2 ^ r) / 256 ^ ((r + i) / 8) := Int.ediv_nonneg hR0 (by omega)
      have hy1 : (raw + v % 2 ^ i * 2 ^ r) / 256 ^ ((r + i) / 8) < 2 ^ ((r + i) % 8) := by rw [Int.ediv_lt_iff_lt_mul hpj, Int.mul_comm (2 ^ ((r + i) % 8))]; exact hR1
      have hq7 : (2 : Int) ^ ((r + i) % 8) ≤ 128 := p2le (b := 7) (by omega)
      rw [if_pos (by omega), tmod_emod (by omega), tdiv_ediv (by omega), i64 (x := ((r + i : Nat) : Int) / 8) (by omega) (by omega), i64 (x := (i : Int) + 1) (by omega) (by omega), i64 (x := ((r + i : Nat) : Int) + 1) (by omega) (by omega), bit_of (by omega),
        show ((r + i : Nat) : Int) / 8 = (((r + i) / 8 : Nat) : Int) by omega, show ((r + i : Nat) : Int) % 8 = (((r + i) % 8 : Nat) : Int) by omega, Int.toNat_natCast, Int.toNat_natCast]
      by_cases h8 : (r + i) % 8 = 0
      · have hlen : (r + i + 7) / 8 = (r + i) / 8 := by omega
        have hlen2 : (r + (i + 1) + 7) / 8 = (r + i) / 8 + 1 := by omega
        have happ : le ((r + i) / 8) (raw + v % 2 ^ i * 2 ^ r) ++ [0] = le ((r + i) / 8 + 1) (raw + v % 2 ^ i * 2 ^ r) := le_snoc0 _ _ hR0 (by rw [h8] at hR1; simpa using hR1)
        rw [if_pos (by omega), hlen, happ, chk_pos (by simp [le_len]; omega), chk_pos (by simp only [le_len]; omega), chk_pos (by omega), chk_pos (by omega), chk_pos (by simp only [le_len]; omega), le_get _ _ _ (by omega), Int.emod_eq_of_lt hy0 (by omega),
          or_bit (by omega) hy0 hy1 hd0.1 hd0.2, le_put hR0 hR1 (by omega) hd0.1 hd0.2 (by omega), ← hnext, ← hlen2]
        rw [show ((i + 1 : Nat) : Int) = (i : Int) + 1 by omega, show ((r + (i + 1) : Nat) : Int) = ((r + i : Nat) : Int) + 1 by omega] at ih
        exact ih
      · have hlen : (r + i + 7) / 8 = (r + i) / 8 + 1 := by omega
        have hlen2 : (r + (i + 1) + 7) / 8 = (r + i) / 8 + 1 := by omega
        rw [if_neg (by omega), hlen, chk_pos (by simp only [le_len]; omega), chk_pos (by omega), chk_pos (by omega), chk_pos (by simp only [le_len]; omega), le_get _ _ _ (by omega), Int.emod_eq_of_lt hy0 (by omega),
          or_bit (by omega) hy0 hy1 hd0.1 hd0.2, le_put hR0 hR1 (by omega) hd0.1 hd0.2 (by omega), ← hnext, ← hlen2]
        rw [show ((i + 1 : Nat) : Int) = (i : Int) + 1 by omega, show ((r + (i + 1) : Nat) : Int) = ((r + i : Nat) : Int) + 1 by omega] at ih
        exact ih
    · have : i = n := by omega
      subst this
      rw [if_neg (by omega)]
theorem ebits_F {e : E} (h : e.Ok) (l1 : e.k < 1099511627000) (l2 : e.r < 1099511627000) (l3 : 100 ≤ N) (v n : Int) {val rng : Int} {told : List Int} :
    Rc.ebits.F N v n val rng e.r e.count told e.bits =
      some (if 0 ≤ n ∧ n ≤ 24 ∧ 0 ≤ v ∧ v < 2 ^ n.toNat then (0, ((e.bt v n.toNat).r : Int), (e.bt v n.toNat).count, (e.bt v n.toNat).bits) else (1, (e.r : Int), e.count, e.bits)) := by
  unfold Rc.ebits.F
  simp only [br_dec, chkI_same, chkL_same]
  by_cases n0 : n < 0
  · rw [if_pos n0, if_neg (by omega)]
  by_cases n1 : n > 24
  · rw [if_neg n0, if_pos n1, if_neg (by omega)]
  by_cases v0 : v < 0
  · rw [if_neg n0, if_neg n1, if_pos v0, if_neg (by omega)]
  obtain ⟨k, rfl⟩ := Int.eq_ofNat_of_zero_le (show 0 ≤ n by omega)
  have hp := p2pos k
  have hp2 : (2 : Int) ^ k ≤ 16777216 := p2le (b := 24) (by omega)
  rw [if_neg n0, if_neg n1, if_neg v0, chk_pos (by omega), Int.toNat_natCast, bits_i64, show min k 64 = k by omega, Int.one_mul, i64 (x := 2 ^ k) (by omega) (by omega)]
  by_cases v1 : v ≥ 2 ^ k
  · rw [if_pos v1, if_neg (by omega)]
  have := ebits_loop (N := N) (v := v) (n := k) (val := val) (rng := rng) (count := e.count) (told := told) (by omega) h.w0 h.w1 l2 N 0 (by omega) (by omega)
  simp only [Int.pow_zero, Nat.add_zero, Int.emod_one, Int.zero_mul, Int.add_zero] at this
  rw [if_neg v1, if_pos (by omega)]
  have e0 : e.bits = le ((e.r + 7) / 8) e.raw := rfl
  rw [show ((0 : Nat) : Int) = 0 from rfl] at this
  rw [e0, this, obind_of, Int.emod_eq_of_lt (by omega) (by omega)]
  have hc : 0 ≤ e.count ∧ e.count < 1152921504606846900 := by unfold E.count; omega
  rw [i64 (by omega) (by omega)]
  have ec : e.count + k = (e.bt v k).count := by simp only [E.bt, E.count]; omega
  rw [ec]
  rfl
end
end Go.Pl
/-
  Chapter 4 in plain words: numbers below a bound, Tell, the end.
  Conditions: none.
-/
namespace Go.Pl
open Go.Eng Go.Proofs
def E.un (e : E) (v ft : Int) : E := if ft = 1 then e else if ft ≤ 256 then e.tk v (v + 1) ft else (e.tk (v / 2 ^ ub ft) (v / 2 ^ ub ft + 1) (uf ft)).bt (v % 2 ^ ub ft) (ub ft)
theorem un_place {v ft : Int} (v0 : 0 ≤ v) (v1 : v < ft) (h1 : ft ≤ 256) : Place v (v + 1) ft := ⟨by omega, by omega, v0, by omega, by omega⟩
theorem ug_place {v ft : Int} (v0 : 0 ≤ v) (v1 : v < ft) (h0 : 256 < ft) (h1 : ft ≤ 4294967295) : Place (v / 2 ^ ub ft) (v / 2 ^ ub ft + 1) (uf ft) ∧ 0 ≤ v / 2 ^ ub ft ∧ v / 2 ^ ub ft < 256 := by
  obtain ⟨b0, b1, b2, u0, u1⟩ := ub_range h0 h1
  have hp := p2pos (ub ft)
  have h2 : 0 ≤ v / 2 ^ ub ft := Int.ediv_nonneg v0 (by omega)
  have h3 : v / 2 ^ ub ft ≤ (ft - 1) / 2 ^ ub ft := Int.ediv_le_ediv hp (by omega)
  have h4 : uf ft = (ft - 1) / 2 ^ ub ft + 1 := rfl
  exact ⟨⟨u0, by omega, h2, by omega, by omega⟩, h2, by omega⟩
theorem E.un_ok {e : E} (h : e.Ok) {v ft : Int} (v0 : 0 ≤ v) (v1 : v < ft) (h1 : ft ≤ 4294967295) : (e.un v ft).Ok := by
  unfold E.un
  split
  · exact h
  · split
    · exact E.tk_ok h (un_place v0 v1 (by omega))
    · exact E.bt_ok (E.tk_ok h (ug_place v0 v1 (by omega) h1).1) (Int.emod_nonneg _ (by have := p2pos (ub ft); omega)) (Int.emod_lt_of_pos _ (p2pos _))
section
variable {N : Nat}
theorem E.Lim.tk {e : E} (hl : e.Lim (N + 4)) {fl fh ft : Int} (hk : e.k < 1099511626000) : (e.tk fl fh ft).Lim (N + 8) := by
  have := E.tk_same e fl fh ft
  obtain ⟨l1, l2, l3⟩ := hl
  exact ⟨by omega, by omega, by omega⟩
theorem and_low {v : Int} {k : Nat} (hk : k ≤ 24) : IntKind.i64.wrap ↑(BitVec.ofInt IntKind.i64.bits v &&& BitVec.ofInt IntKind.i64.bits (IntKind.i64.wrap (IntKind.i64.wrap (1 * 2 ^ min k IntKind.i64.bits) - 1))).toNat = v % 2 ^ k := by
  have h6 := p2pos k
  have h7 : (2 : Int) ^ k ≤ 16777216 := p2le (a := k) (b := 24) (by omega)
  have h8 := Int.emod_nonneg v (show (2 : Int) ^ k ≠ 0 by omega)
  have h9 := Int.emod_lt_of_pos v h6
  rw [bits_i64, show min k 64 = k by omega, Int.one_mul, i64 (x := 2 ^ k) (by omega) (by omega), i64 (x := 2 ^ k - 1) (by omega) (by omega),
    and_mask_any (w := 64) (k := k) (m := 2 ^ k - 1) v rfl (by omega), i64 (by omega) (by omega)]
theorem euint_F {e : E} (h : e.Ok) (hl : e.Lim N) (hk : e.k < 1099511626000) (v ft : Int) :
    Rc.euint.F N v ft e.val e.rng e.r e.count e.told e.bits =
      some (if 1 ≤ ft ∧ ft ≤ 4294967295 ∧ 0 ≤ v ∧ v < ft then (0, (e.un v ft).val, (e.un v ft).rng, ((e.un v ft).r : Int), (e.un v ft).count, (e.un v ft).told, (e.un v ft).bits) else (1, e.val, e.rng, (e.r : Int), e.count, e.told, e.bits)) := by
  unfold Rc.euint.F
  simp only [br_dec, br_beq]
  by_cases c1 : ft < 1
  · rw [if_pos c1, if_neg (by omega)]
  by_cases c2 : ft > 4294967295
  · rw [if_neg c1, if_pos c2, if_neg (by omega)]
  by_cases c3 : v < 0
  · rw [if_neg c1, if_neg c2, if_pos c3, if_neg (by omega)]
  by_cases c4 : v ≥ ft
  · rw [if_neg c1, if_neg c2, if_neg c3, if_pos c4, if_neg (by omega)]
  rw [if_neg c1, if_neg c2, if_neg c3, if_neg c4, if_pos (show 1 ≤ ft ∧ ft ≤ 4294967295 ∧ 0 ≤ v ∧ v < ft by omega)]
  by_cases c5 : ft = 1
  · rw [if_pos c5]
    have : e.un v ft = e := by unfold E.un; rw [if_pos c5]
    rw [this]
  by_cases c6 : ft ≤ 256
  · have eu : e.un v ft = e.tk v (v + 1) ft := by unfold E.un; rw [if_neg c5, if_pos c6]
    have hs := E.tk_same e v (v + 1) ft
    rw [if_neg c5, if_pos c6, u64 (x := v) (by omega) (by omega), i64 (x := v + 1) (by omega) (by omega), u64 (x := v + 1) (by omega) (by omega), u64 (x := ft) (by omega) (by omega), etake_F h hl (un_place (by omega) (by omega) c6), obind_of, eu]
    simp only [E.bits, hs.1, hs.2.1]
  · have eu : e.un v ft = (e.tk (v / 2 ^ ub ft) (v / 2 ^ ub ft + 1) (uf ft)).bt (v % 2 ^ ub ft) (ub ft) := by unfold E.un; rw [if_neg c5, if_neg c6]
    obtain ⟨b0, b1, b2, u0, u1⟩ := ub_range (ft := ft) (by omega) (by omega)
    obtain ⟨pl, q0, q1⟩ := ug_place (v := v) (ft := ft) (by omega) (by omega) (by omega) (by omega)
    have hok := E.tk_ok h pl
    have hs := E.tk_same e (v / 2 ^ ub ft) (v / 2 ^ ub ft + 1) (uf ft)
    obtain ⟨l1, l2, l3⟩ := id hl
    have hbits : (e.tk (v / 2 ^ ub ft) (v / 2 ^ ub ft + 1) (uf ft)).bits = e.bits := by simp only [E.bits, hs.1, hs.2.1]
    have hp := p2pos (ub ft)
    have m0 := Int.emod_nonneg v (show (2 : Int) ^ ub ft ≠ 0 by omega)
    have m1 := Int.emod_lt_of_pos v hp
    have euf : (ft - 1) / 2 ^ ub ft + 1 = uf ft := rfl
    rw [if_neg c5, if_neg c6, i64 (x := ft - 1) (by omega) (by omega), u64 (x := ft - 1) (by omega) (by omega), blen_F (by omega) (by omega), obind_of, b2, i64 (x := (ub ft : Int) + 8 - 8) (by omega) (by omega),
      show (ub ft : Int) + 8 - 8 = ub ft by omega, chk_pos (by omega), chk_pos (by omega), Int.toNat_natCast, and_low (by omega), bits_i64, show min (ub ft) 64 = ub ft by omega, fdiv_ediv (a := v) (by omega), fdiv_ediv (a := ft - 1) (by omega), euf,
      u64 (x := v / 2 ^ ub ft) (by omega) (by omega), u64 (x := v / 2 ^ ub ft + 1) (by omega) (by omega), i64 (x := uf ft) (by omega) (by omega), u64 (x := uf ft) (by omega) (by omega), etake_F h hl pl, obind_of, chk_pos (by omega)]
    simp only
    have hb := ebits_F (N := N) hok (by omega) (by omega) (by omega) (v % 2 ^ ub ft) (ub ft) (val := (e.tk (v / 2 ^ ub ft) (v / 2 ^ ub ft + 1) (uf ft)).val) (rng := (e.tk (v / 2 ^ ub ft) (v / 2 ^ ub ft + 1) (uf ft)).rng) (told := (e.tk (v / 2 ^ ub ft) (v / 2 ^ ub ft + 1) (uf ft)).told)
    rw [hs.1, hbits, Int.toNat_natCast, if_pos (by omega)] at hb
    rw [hb, obind_of, eu]
    rfl
theorem E.bl_range {e : E} (h : e.Ok) : 24 ≤ bl e.rng ∧ bl e.rng ≤ 32 := by
  refine ⟨?_, bl_le (n := 32) (by show e.rng < 4294967296; have := h.r1; omega)⟩
  have := bl_mono (x := 8388608) (y := e.rng) (by have := h.g; omega)
  have e : bl 8388608 = 24 := by decide +kernel
  omega
theorem etell_F {e : E} (h : e.Ok) (hl : e.Lim N) {raw told : List Int} {val rb : Int} : Rc.etell.F N val e.rng rb e.count told raw = some e.tell := by
  have := E.bl_range h
  obtain ⟨l1, l2, l3⟩ := hl
  have hc : 0 ≤ e.count ∧ e.count < 1152921504606846900 := by unfold E.count; omega
  unfold Rc.etell.F
  simp only [chkI_same, chkL_same]
  rw [len64_F (by have := h.g; omega) (by have := h.r1; omega), obind_of, i64 (by omega) (by omega)]
  rfl
theorem E.tell_pos {e : E} (h : e.Ok) : 1 ≤ e.tell := by
  have := E.bl_range h
  unfold E.tell E.count
  omega
theorem tb_add (m : Nat) : ∀ (A B : Int), tb m (A + 256 ^ m * B) = tb m A := by
  induction m with
  | zero => intro A B; rfl
  | succ m ih =>
    intro A B
    have hp := p256pos m
    have e1 : A + 256 ^ (m + 1) * B = A + 256 * (256 ^ m * B) := by rw [Int.pow_succ, Int.mul_comm (256 ^ m), Int.mul_assoc]
    simp only [tb]
    rw [e1, show (A + 256 * (256 ^ m * B)) / 256 = A / 256 + 256 ^ m * B by omega, ih, show (A + 256 * (256 ^ m * B)) % 256 = A % 256 by omega]
theorem incr_loop : ∀ (nn j : Nat) (m c : Int) (suf : List Int), 0 ≤ m → 0 ≤ c → c ≤ 256 → m + c < 256 ^ j → j < nn → j < 1099511627776 →
    Rc.increase.loop2 N nn c ((j : Int) - 1) (tb j m ++ suf) = some (tb j (m + c) ++ suf)
  | 0, j, m, c, suf, h0, c0, c1, h1, h2, _ => by omega
  | nn + 1, 0, m, c, suf, h0, c0, c1, h1, h2, _ => by
    unfold Rc.increase.loop2
    simp only [br_dec]
    rw [if_neg (by omega)]
    rfl
  | nn + 1, j + 1, m, c, suf, h0, c0, c1, h1, h2, h3 => by
    have e1 : tb (j + 1) m ++ suf = tb j (m / 256) ++ (m % 256) :: suf := by simp [tb]
    have e2 : tb (j + 1) (m + c) ++ suf = tb j ((m + c) / 256) ++ ((m + c) % 256) :: suf := by simp [tb]
    unfold Rc.increase.loop2
    simp only [br_dec]
    rw [show (((j + 1 : Nat) : Int)) - 1 = (j : Int) by omega, if_pos (by omega)]
    by_cases hc : c > 0
    · rw [Int.pow_succ] at h1
      have p8i : (2 : Int) ^ min (Int.toNat (8 : Int)) IntKind.i64.bits = 256 := rfl
      rw [if_pos hc, e1, Int.toNat_natCast, get_mid (tb_len _ _), i64 (x := m % 256) (by omega) (by omega), i64 (x := c + m % 256) (by omega) (by omega), set_mid (tb_len _ _), u8_mod, p8i, fdiv_ediv (by omega), chk_pos (by simp [tb_len]; omega), chk_pos (by simp [tb_len]; omega), i64 (by omega) (by omega),
        incr_loop nn j (m / 256) ((c + m % 256) / 256) _ (by omega) (by omega) (by omega) (by omega) (by omega) (by omega), e2, show m / 256 + (c + m % 256) / 256 = (m + c) / 256 by omega, show (c + m % 256) % 256 = (m + c) % 256 by omega]
    · have : c = 0 := by omega
      subst this
      rw [if_neg hc, Int.add_zero]
theorem increase_F {n p : Nat} {Y : Int} (h0 : 0 ≤ Y) (h1 : Y + 2 ^ p < 256 ^ n) (hp : p < 8 * n) (hn : n < 1099511627776) (hN : n < N) :
    Rc.increase.F N p (tb n Y) = some (tb n (Y + 2 ^ p)) := by
  unfold Rc.increase.F
  have hpq := p256pos (p / 8)
  have hq7 : (2 : Int) ^ (p % 8) ≤ 128 := p2le (b := 7) (by omega)
  have hq0 := p2pos (p % 8)
  have hsp := tb_split (n - p / 8) (p / 8) Y
  have hsp2 := tb_split (n - p / 8) (p / 8) (Y + 2 ^ p)
  rw [show n - p / 8 + p / 8 = n by omega] at hsp hsp2
  rw [pow_split p] at hsp2 h1 ⊢
  rw [Int.add_mul_ediv_left _ _ (by omega), tb_add] at hsp2
  have hlt : Y / 256 ^ (p / 8) + 2 ^ (p % 8) < 256 ^ (n - p / 8) := by
    have e : (Y + 256 ^ (p / 8) * 2 ^ (p % 8)) / 256 ^ (p / 8) < 256 ^ (n - p / 8) := by
      rw [Int.ediv_lt_iff_lt_mul hpq, ← Int.pow_add, show n - p / 8 + p / 8 = n by omega]
      exact h1
    rwa [Int.add_mul_ediv_left _ _ (by omega)] at e
  rw [tmod_emod (by omega), tdiv_ediv (by omega), tb_len, show (p : Int) % 8 = ((p % 8 : Nat) : Int) by omega, show (p : Int) / 8 = ((p / 8 : Nat) : Int) by omega, chk_pos (by omega), Int.toNat_natCast, bits_i64, show min (p % 8) 64 = p % 8 by omega,
    Int.one_mul, i64 (x := 2 ^ (p % 8)) (by omega) (by omega), i64 (x := (n : Int) - 1) (by omega) (by omega), i64 (x := ((p / 8 : Nat) : Int)) (by omega) (by omega), i64 (by omega) (by omega),
    show (n : Int) - 1 - ((p / 8 : Nat) : Int) = ((n - p / 8 : Nat) : Int) - 1 by omega]
  rw [hsp, incr_loop N (n - p / 8) _ _ _ (Int.ediv_nonneg h0 (by omega)) (by omega) (by omega) hlt (by omega) (by omega), obind_of, hsp2]
theorem indexf_loop {eb_ : List Int} {l : List Int} (hl : l.length < 140737488351233) : ∀ (nn k : Nat) (s : Int), k ≤ l.length → l.length - k < nn →
    ((∀ j, k ≤ j → j < l.length → l.getD j 0 = 0) → Rc.indexf8.loop2 N nn eb_ (l.length : Int) l s (k : Int) = some (.inl s)) ∧
    (¬ (∀ j, k ≤ j → j < l.length → l.getD j 0 = 0) → ∃ i : Nat, Rc.indexf8.loop2 N nn eb_ (l.length : Int) l s (k : Int) = some (.inr (i : Int)))
  | 0, k, s, _, h => by omega
  | nn + 1, k, s, hk, h => by
    unfold Rc.indexf8.loop2
    simp only [br_dec, br_bne, chkI_same, chkL_same]
    by_cases hlt : k < l.length
    · have ih := indexf_loop (eb_ := eb_) hl nn (k + 1) s (by omega) (by omega)
      rw [if_pos (by omega), chk_pos (by omega), Int.toNat_natCast, i64 (by omega) (by omega)]
      by_cases h0 : l.getD k 0 = 0
      · rw [if_pos h0]
        rw [show ((k + 1 : Nat) : Int) = (k : Int) + 1 by omega] at ih
        refine ⟨fun ha => ih.1 fun j hj => ha j (by omega), fun hn => ih.2 fun ha => hn fun j hj hj2 => ?_⟩
        rcases Nat.eq_or_lt_of_le hj with rfl | hj3
        · exact h0
        · exact ha j hj3 hj2
      · rw [if_neg h0]
        exact ⟨fun ha => absurd (ha k (Nat.le_refl _) hlt) h0, fun _ => ⟨k, rfl⟩⟩
    · rw [if_neg (by omega)]
      exact ⟨fun _ => rfl, fun hn => absurd (fun j h1 h2 => absurd h2 (by omega)) hn⟩
theorem contains_F {l : List Int} (hl : l.length < 140737488351233) (hN : l.length < N) :
    ((∀ j, j < l.length → l.getD j 0 = 0) → Rc.contains8.F N l = some false) ∧ (¬ (∀ j, j < l.length → l.getD j 0 = 0) → Rc.contains8.F N l = some true) := by
  unfold Rc.contains8.F Rc.indexf8.F
  have h := indexf_loop (N := N) (eb_ := l) hl N 0 0 (by omega) (by omega)
  rw [show ((0 : Nat) : Int) = 0 from rfl] at h
  refine ⟨fun ha => ?_, fun hn => ?_⟩
  · rw [h.1 fun j _ => ha j, osum_inl, obind_of]
    rfl
  · obtain ⟨i, hi⟩ := h.2 fun ha => hn fun j => ha j (by omega)
    rw [hi, osum_inr, obind_of]
    exact congrArg some (decide_eq_true (Int.natCast_nonneg i))
theorem cmp_F (x y : Int) : Rc.cmp8.F N x y = some (if x < y then -1 else if x > y then 1 else 0) := by
  unfold Rc.cmp8.F Rc.isnan8.F
  simp only [obind_of, bne_self_eq_false, br_false, br_dec]
  split
  · rfl
  · split <;> rfl
theorem compare_loop {ex ey : List Int} {b c : List Int} (hb : Bytes b) (hc : Bytes c) (hlen : b.length = c.length) (hl : b.length < 140737488351233) : ∀ (nn k : Nat) (s : Int), k ≤ b.length → b.length - k < nn → cp b k = cp c k →
    (∃ r, Rc.compare8.loop2 N nn ex ey (b.length : Int) c b s (k : Int) = some (.inr r) ∧ r ≠ 0 ∧ (r < 0 ↔ cp b b.length < cp c b.length)) ∨
    (Rc.compare8.loop2 N nn ex ey (b.length : Int) c b s (k : Int) = some (.inl s) ∧ cp b b.length = cp c b.length)
  | 0, k, s, _, h, _ => by omega
  | nn + 1, k, s, hk, h, he => by
    unfold Rc.compare8.loop2
    simp only [br_dec, br_bne, chkI_same, chkL_same]
    by_cases hlt : k < b.length
    · rw [if_pos (by omega), chk_pos (by omega), if_neg (by omega), chk_pos (by omega), Int.toNat_natCast, cmp_F, obind_of, i64 (by omega) (by omega)]
      have hbk := nb_range hb k
      have hck := nb_range hc k
      have e1 : cp b (k + 1) = cp b k * 256 + nb b k := rfl
      have e2 : cp c (k + 1) = cp c k * 256 + nb c k := rfl
      have n1 : b.getD k 0 = nb b k := rfl
      have n2 : c.getD k 0 = nb c k := rfl
      have f1 := cp_less hb (k + 1) (b.length - (k + 1))
      have f2 := cp_less hc (k + 1) (b.length - (k + 1))
      rw [show k + 1 + (b.length - (k + 1)) = b.length by omega] at f1 f2
      have hp := p256pos (b.length - (k + 1))
      rw [n1, n2]
      by_cases hx : nb b k < nb c k
      · left
        rw [if_pos hx, if_neg (by omega), omap_of]
        refine ⟨(-1 : Int), rfl, (by decide : (-1 : Int) ≠ 0), fun _ => ?_, fun _ => (by decide : (-1 : Int) < 0)⟩
        rcases Int.lt_or_le (cp b b.length) (cp c b.length) with h1 | h1
        · exact h1
        · have := Int.ediv_le_ediv hp h1; omega
      · by_cases hy : nb b k > nb c k
        · left
          rw [if_neg hx, if_pos hy, if_neg (by omega), omap_of]
          refine ⟨(1 : Int), rfl, (by decide : (1 : Int) ≠ 0), fun h => absurd h (by decide : ¬ (1 : Int) < 0), fun h1 => ?_⟩
          exfalso
          have := Int.ediv_le_ediv hp (Int.le_of_lt h1)
          omega
        · rw [if_neg hx, if_neg hy, if_pos rfl]
          have ih := compare_loop (ex := ex) (ey := ey) hb hc hlen hl nn (k + 1) s (by omega) (by omega) (by omega)
          rw [show ((k + 1 : Nat) : Int) = (k : Int) + 1 by omega] at ih
          exact ih
    · have : k = b.length := by omega
      rw [if_neg (by omega)]
      right
      exact ⟨rfl, by rw [← this]; exact he⟩
theorem compare_F {n : Nat} {X Y : Int} (x0 : 0 ≤ X) (x1 : X < 256 ^ n) (y0 : 0 ≤ Y) (y1 : Y < 256 ^ n) (hn : n < 1099511627776) (hN : n < N) :
    ∃ r, Rc.compare8.F N (tb n X) (tb n Y) = some r ∧ (r < 0 ↔ X < Y) := by
  unfold Rc.compare8.F
  have h := compare_loop (N := N) (ex := tb n X) (ey := tb n Y) (tb_bytes n X) (tb_bytes n Y) (by rw [tb_len, tb_len]) (by rw [tb_len]; omega) N 0 0 (by omega) (by rw [tb_len]; omega) rfl
  rw [tb_len, cp_tb n X x0 x1, cp_tb n Y y0 y1, show ((0 : Nat) : Int) = 0 from rfl] at h
  simp only [tb_len]
  rcases h with ⟨r, h1, _, h3⟩ | ⟨h1, h2⟩
  · rw [h1, osum_inr]; exact ⟨r, rfl, h3⟩
  · rw [h1, osum_inl, br_dec, if_neg (by omega)]; exact ⟨(0 : Int), rfl, fun h => absurd h (by decide : ¬ (0 : Int) < 0), fun h => by omega⟩
end
end Go.Pl
/-
  Chapter 4 in plain words: what Done tells.
  Conditions: none.
-/
namespace Go.Pl
open Go.Eng Go.Proofs
theorem bic_fin : ∀ q : Fin 8, ∀ y : Fin 256, ((BitVec.ofInt 8 (y.val : Int) &&& ~~~BitVec.ofInt 8 (2 ^ q.val)).toNat : Int) = (y.val : Int) - ((y.val : Int) / 2 ^ q.val % 2) * 2 ^ q.val := by decide +kernel
theorem band_fin : ∀ q : Fin 8, ∀ y : Fin 256, ((BitVec.ofInt 8 (y.val : Int) &&& BitVec.ofInt 8 (2 ^ q.val)).toNat : Int) = ((y.val : Int) / 2 ^ q.val % 2) * 2 ^ q.val := by decide +kernel
theorem bor_fin : ∀ q : Fin 8, ∀ y : Fin 256, ∀ d : Fin 2, ((BitVec.ofInt 8 ((y.val : Int) - ((y.val : Int) / 2 ^ q.val % 2) * 2 ^ q.val) ||| BitVec.ofInt 8 ((d.val : Int) * 2 ^ q.val)).toNat : Int) = (y.val : Int) - ((y.val : Int) / 2 ^ q.val % 2) * 2 ^ q.val + (d.val : Int) * 2 ^ q.val := by decide +kernel
theorem put_bit {y z : Int} {q : Nat} (hq : q < 8) (y0 : 0 ≤ y) (y1 : y < 256) (z0 : 0 ≤ z) (z1 : z < 256) :
    IntKind.u8.wrap ↑(BitVec.ofInt IntKind.u8.bits (IntKind.u8.wrap ↑(BitVec.ofInt IntKind.u8.bits y &&& ~~~BitVec.ofInt IntKind.u8.bits (IntKind.u8.wrap (1 * 2 ^ min q IntKind.u8.bits))).toNat) ||| BitVec.ofInt IntKind.u8.bits (IntKind.u8.wrap ↑(BitVec.ofInt IntKind.u8.bits z &&& BitVec.ofInt IntKind.u8.bits (IntKind.u8.wrap (1 * 2 ^ min q IntKind.u8.bits))).toNat)).toNat =
      y + (z / 2 ^ q % 2 - y / 2 ^ q % 2) * 2 ^ q := by
  have hpq := p2pos q
  have hq7 : (2 : Int) ^ q ≤ 128 := p2le (b := 7) (by omega)
  obtain ⟨a, rfl⟩ := Int.eq_ofNat_of_zero_le y0
  obtain ⟨c, rfl⟩ := Int.eq_ofNat_of_zero_le z0
  have f1 := bic_fin ⟨q, hq⟩ ⟨a, by omega⟩
  have f2 := band_fin ⟨q, hq⟩ ⟨c, by omega⟩
  have hd : (c : Int) / 2 ^ q % 2 = 0 ∨ (c : Int) / 2 ^ q % 2 = 1 := by omega
  obtain ⟨d, hd2⟩ : ∃ d : Fin 2, (d.val : Int) = (c : Int) / 2 ^ q % 2 := by
    rcases hd with h | h
    · exact ⟨0, by rw [h]; rfl⟩
    · exact ⟨1, by rw [h]; rfl⟩
  have f3 := bor_fin ⟨q, hq⟩ ⟨a, by omega⟩ d
  simp only at f1 f2 f3
  rw [hd2] at f3
  have hbit : 0 ≤ (a : Int) / 2 ^ q % 2 ∧ (a : Int) / 2 ^ q % 2 ≤ 1 := by omega
  have hle : (a : Int) / 2 ^ q % 2 * 2 ^ q ≤ a := by
    have h1 := Int.mul_ediv_add_emod (a : Int) (2 ^ q)
    have h2 := Int.emod_nonneg (a : Int) (show (2 : Int) ^ q ≠ 0 by omega)
    have h3 : (a : Int) / 2 ^ q % 2 * 2 ^ q ≤ (a : Int) / 2 ^ q * 2 ^ q := by
      refine Int.mul_le_mul_of_nonneg_right ?_ (by omega)
      have : 0 ≤ (a : Int) / 2 ^ q := Int.ediv_nonneg y0 (by omega)
      omega
    rw [Int.mul_comm ((a : Int) / 2 ^ q)] at h3
    omega
  have hge : 0 ≤ (a : Int) / 2 ^ q % 2 * 2 ^ q := Int.mul_nonneg hbit.1 (by omega)
  have hz : 0 ≤ (c : Int) / 2 ^ q % 2 * 2 ^ q ∧ (c : Int) / 2 ^ q % 2 * 2 ^ q ≤ 128 := by rcases hd with h | h <;> rw [h] <;> omega
  have hsum : (a : Int) - (a : Int) / 2 ^ q % 2 * 2 ^ q + (c : Int) / 2 ^ q % 2 * 2 ^ q < 256 := by
    rw [← f3]
    have := (BitVec.ofInt 8 ((a : Int) - ((a : Int) / 2 ^ q % 2) * 2 ^ q) ||| BitVec.ofInt 8 ((c : Int) / 2 ^ q % 2 * 2 ^ q)).isLt
    omega
  rw [bits_u8, show min q 8 = q by omega, Int.one_mul, u8 (x := 2 ^ q) (by omega) (by omega), f1, f2, u8 (x := (a : Int) - _) (by omega) (by omega), u8 (x := (c : Int) / 2 ^ q % 2 * 2 ^ q) (by omega) (by omega), f3, u8 (by omega) hsum]
  rw [Int.sub_mul]
  omega
theorem tb_set {n j : Nat} (hj : j < n) (X : Int) {y : Int} (y0 : 0 ≤ y) (y1 : y < 256) : (tb n X).set (n - 1 - j) y = tb n (X + (y - X / 256 ^ j % 256) * 256 ^ j) := by
  have hp := p256pos j
  have h1 := tb_split (n - 1 - j + 1) j X
  have h2 := tb_split (n - 1 - j + 1) j (X + (y - X / 256 ^ j % 256) * 256 ^ j)
  rw [show n - 1 - j + 1 + j = n by omega] at h1 h2
  simp only [tb] at h1 h2
  rw [Int.add_mul_ediv_right _ _ (by omega), Int.mul_comm _ (256 ^ j), tb_add] at h2
  generalize X / 256 ^ j = q at *
  rw [show (q + (y - q % 256)) / 256 = q / 256 by omega, show (q + (y - q % 256)) % 256 = y by omega] at h2
  rw [Int.mul_comm _ (256 ^ j), h1, h2, List.append_assoc, List.append_assoc, List.singleton_append, List.singleton_append, set_mid (tb_len _ _)]
section
variable {N : Nat}
theorem done_loop {n r : Nat} {val rng rb count : Int} {told : List Int} {O raw : Int} (hr : r ≤ 8 * n) (hn : n ≤ 100000) (O0 : 0 ≤ O) (O1 : O < 256 ^ n) (w0 : 0 ≤ raw) : ∀ (nn i : Nat), i ≤ r → r - i < nn →
    Rc.edone.loop12 N nn n r val rng rb count told (le ((r + 7) / 8) raw) (i : Int) (tb n (O - O % 2 ^ i + raw % 2 ^ i)) = some (tb n (O - O % 2 ^ r + raw % 2 ^ r))
  | 0, i, _, h => by omega
  | nn + 1, i, hi, h => by
    unfold Rc.edone.loop12
    simp only [br_dec, chkI_same, chkL_same]
    by_cases hlt : i < r
    · have ih := done_loop (val := val) (rng := rng) (rb := rb) (count := count) (told := told) hr hn O0 O1 w0 nn (i + 1) (by omega) (by omega)
      have hpi := p2pos i
      have hpj := p256pos (i / 8)
      have hX : (O - O % 2 ^ i + raw % 2 ^ i) / 2 ^ i = O / 2 ^ i := by
        have h1 := Int.mul_ediv_add_emod O (2 ^ i)
        have m0 := Int.emod_nonneg raw (show (2 : Int) ^ i ≠ 0 by omega)
        have m1 := Int.emod_lt_of_pos raw hpi
        rw [show O - O % 2 ^ i + raw % 2 ^ i = raw % 2 ^ i + 2 ^ i * (O / 2 ^ i) by omega, Int.add_mul_ediv_left _ _ (by omega), Int.ediv_eq_zero_of_lt m0 m1, Int.zero_add]
      have hget := tb_get n (O - O % 2 ^ i + raw % 2 ^ i) (n - 1 - i / 8) (by omega)
      rw [show n - 1 - (n - 1 - i / 8) = i / 8 by omega] at hget
      have hraw := le_get ((r + 7) / 8) raw (i / 8) (by omega)
      have hy : (O - O % 2 ^ i + raw % 2 ^ i) / 256 ^ (i / 8) % 256 / 2 ^ (i % 8) % 2 = O / 2 ^ i % 2 := by
        rw [byte_bit _ (by omega), Int.ediv_ediv_of_nonneg (by omega), ← pow_split, hX]
      have hz : raw / 256 ^ (i / 8) % 256 / 2 ^ (i % 8) % 2 = raw / 2 ^ i % 2 := by
        rw [byte_bit _ (by omega), Int.ediv_ediv_of_nonneg (by omega), ← pow_split]
      have hnext : O - O % 2 ^ (i + 1) + raw % 2 ^ (i + 1) = (O - O % 2 ^ i + raw % 2 ^ i) + (raw / 2 ^ i % 2 - O / 2 ^ i % 2) * 2 ^ i := by
        rw [Int.pow_succ, emod_two_mul hpi O, emod_two_mul hpi raw, Int.sub_mul]
        omega
      rw [if_pos (by omega), tmod_emod (by omega), tdiv_ediv (by omega), show (i : Int) % 8 = ((i % 8 : Nat) : Int) by omega, show (i : Int) / 8 = ((i / 8 : Nat) : Int) by omega,
        i64 (x := (n : Int) - 1) (by omega) (by omega), i64 (x := ((i / 8 : Nat) : Int)) (by omega) (by omega), i64 (x := (n : Int) - 1 - _) (by omega) (by omega), show (n : Int) - 1 - ((i / 8 : Nat) : Int) = ((n - 1 - i / 8 : Nat) : Int) by omega,
        chk_pos (by omega), chk_pos (by rw [tb_len]; omega), chk_pos (by rw [le_len]; omega), chk_pos (by rw [tb_len]; omega)]
      simp only [Int.toNat_natCast]
      rw [hget, hraw, put_bit (by omega) (by omega) (by omega) (by omega) (by omega), hy, hz, tb_set (by omega) _ ?_ ?_, i64 (x := (i : Int) + 1) (by omega) (by omega)]
      · have e3 : (O - O % 2 ^ i + raw % 2 ^ i) / 256 ^ (i / 8) % 256 + (raw / 2 ^ i % 2 - O / 2 ^ i % 2) * 2 ^ (i % 8) - (O - O % 2 ^ i + raw % 2 ^ i) / 256 ^ (i / 8) % 256 = (raw / 2 ^ i % 2 - O / 2 ^ i % 2) * 2 ^ (i % 8) := by omega
        rw [e3, Int.mul_assoc, Int.mul_comm (2 ^ (i % 8)), ← pow_split, ← hnext]
        rw [show ((i + 1 : Nat) : Int) = (i : Int) + 1 by omega] at ih
        exact ih
      · rw [← hy, ← hz]
        rw [← put_bit (by omega) (by omega) (by omega) (by omega) (by omega), u8_mod]
        omega
      · rw [← hy, ← hz]
        rw [← put_bit (by omega) (by omega) (by omega) (by omega) (by omega), u8_mod]
        omega
    · have : i = r := by omega
      subst this
      rw [if_neg (by omega)]
theorem E.all_eq (e : E) (h0 : 0 ≤ e.low) : e.told ++ [e.val / 8388608, e.val / 32768 % 256, e.val / 128 % 256, e.val * 2 % 256] = tb (e.k + 4) (2 * e.low) := by
  simp only [tb, E.told, E.val]
  rw [show 2 * e.low / 256 / 256 / 256 / 256 = e.low / 2147483648 by omega, show 2 * e.low / 256 / 256 / 256 % 256 = e.low % 2147483648 / 8388608 by omega, show 2 * e.low / 256 / 256 % 256 = e.low % 2147483648 / 32768 % 256 by omega,
    show 2 * e.low / 256 % 256 = e.low % 2147483648 / 128 % 256 by omega, show 2 * e.low % 256 = e.low % 2147483648 * 2 % 256 by omega]
  simp
theorem copy_eq (K n : Nat) (A : Int) : List.take (List.replicate n (0 : Int)).length (tb K A) ++ List.drop (min (tb K A).length (List.replicate n (0 : Int)).length) (List.replicate n (0 : Int)) =
    tb n (if K ≤ n then A * 256 ^ (n - K) else A / 256 ^ (K - n)) := by
  rw [List.length_replicate, tb_len]
  by_cases h : K ≤ n
  · rw [if_pos h, List.take_of_length_le (by rw [tb_len]; exact h), show min K n = K by omega, List.drop_replicate]
    have := tb_split K (n - K) (A * 256 ^ (n - K))
    have hp := p256pos (n - K)
    rw [show K + (n - K) = n by omega, Int.mul_ediv_cancel _ (by omega), tb_zeros (n - K) _ (Int.mul_emod_left _ _)] at this
    rw [this]
    rfl
  · rw [if_neg h, tb_take (by omega), show min K n = n by omega]
    simp
theorem done_tail {e : E} (h : e.Ok) {n : Nat} (ht : e.tell ≤ 8 * (n : Int)) (hn : n ≤ 1275) (hN : 20000 ≤ N) {val rng count : Int} {told : List Int} :
    (obind (Rc.clone8.F2 N (tb n (e.top n))) fun r4 => obind (Rc.edone.loop12 N N n e.r val rng e.r count told e.bits 0 (tb n (e.top n))) fun r5 => obind (Rc.compare8.F N r5 r4) fun r6 =>
      if r6 < 0 then obind (Rc.increase.F N e.r r5) fun r7 => some ((0 : Int), r7) else some ((0 : Int), r5)) = some (0, tb n (e.out n)) := by
  obtain ⟨f1, f2, f3, f4, f5⟩ := E.out_fit h ht
  obtain ⟨o1, o2, o3, o4⟩ := E.out_facts h n
  have hpr := p2pos e.r
  have hl := done_loop (N := N) (n := n) (r := e.r) (val := val) (rng := rng) (rb := e.r) (count := count) (told := told) (O := e.top n) (raw := e.raw) f1 (by omega) f2 (by omega) h.w0 N 0 (by omega) (by omega)
  simp only [Int.pow_zero, Int.emod_one, Int.sub_zero, Int.add_zero] at hl
  rw [show ((0 : Nat) : Int) = 0 from rfl, Int.emod_eq_of_lt h.w0 h.w1] at hl
  have hmid : e.top n - e.top n % 2 ^ e.r + e.raw = e.mid n := rfl
  have hm0 := o4 f2
  have hm1 : e.mid n < 256 ^ n := by unfold E.out at f4; split at f4 <;> omega
  obtain ⟨r, hr1, hr2⟩ := compare_F (N := N) hm0 hm1 f2 (show e.top n < 256 ^ n by omega) (by omega) (by omega)
  rw [clone8_F (by rw [tb_len]; omega), obind_of]
  simp only [E.bits] at hl ⊢
  rw [hl, obind_of, hmid, hr1, obind_of]
  by_cases hc : e.mid n < e.top n
  · have eo : e.out n = e.mid n + 2 ^ e.r := by unfold E.out; rw [if_pos hc]
    have hr8 : e.r < 8 * n := by
      have := E.bl_range h
      unfold E.tell E.count at ht
      omega
    rw [if_pos (hr2.2 hc), increase_F hm0 (by rw [← eo]; exact f4) hr8 (by omega) (by omega), obind_of, eo]
  · have eo : e.out n = e.mid n := by unfold E.out; rw [if_neg hc]
    rw [if_neg (fun h => hc (hr2.1 h)), eo]
theorem edone_F {e : E} (h : e.Ok) (hl : e.Lim N) (hN : 20000 ≤ N) (n : Int) :
    Rc.edone.F N n e.val e.rng e.r e.count e.told e.bits =
      some (if n < 0 ∨ n > 1275 then (1, []) else if e.tell > 8 * n then (2, []) else (0, tb n.toNat (e.out n.toNat))) := by
  unfold Rc.edone.F
  simp only [br_dec, chkI_same, chkL_same]
  by_cases c1 : n < 0
  · rw [if_pos c1, if_pos (Or.inl c1)]
  by_cases c2 : n > 1275
  · rw [if_neg c1, if_pos c2, if_pos (Or.inr c2)]
  rw [if_neg c1, if_neg c2, if_neg (by omega), etell_F h hl, obind_of, i64 (x := 8 * n) (by omega) (by omega)]
  by_cases c3 : e.tell > 8 * n
  · rw [if_pos c3, if_pos c3]
  rw [if_neg c3, if_neg c3]
  obtain ⟨m, rfl⟩ := Int.eq_ofNat_of_zero_le (show 0 ≤ n by omega)
  obtain ⟨l1, l2, l3⟩ := id hl
  obtain ⟨v0, v1⟩ := e.val_range
  have ht : e.tell ≤ 8 * (m : Int) := by omega
  have htail := done_tail (N := N) h ht (by omega) hN (val := e.val) (rng := e.rng) (count := e.count) (told := e.told)
  have p15 : (2 : Int) ^ min (Int.toNat (15 : Int)) IntKind.u64.bits = 32768 := rfl
  have p7 : (2 : Int) ^ min (Int.toNat (7 : Int)) IntKind.u64.bits = 128 := rfl
  rw [clone8_F (by simp only [E.told, tb_len]; omega), obind_of]
  simp only [p23, p15, p7, p1, Int.toNat_natCast]
  rw [fdiv_ediv (a := e.val) (b := 8388608) (by omega), fdiv_ediv (a := e.val) (b := 32768) (by omega), fdiv_ediv (a := e.val) (b := 128) (by omega), u8 (x := e.val / 8388608) (by omega) (by omega), u8_mod (e.val / 32768), u8_mod (e.val / 128), u64 (x := e.val * 2) (by omega) (by omega), u8_mod (e.val * 2),
    chk_pos (by simp only [E.told, tb_len, List.length_cons, List.length_nil]; omega), chk_pos (by omega), e.all_eq h.l0, copy_eq, tb_len]
  by_cases c4 : e.k + 4 ≤ m
  · have et : e.top m = 2 * e.low * 256 ^ (m - (e.k + 4)) := by unfold E.top; rw [if_pos c4]
    rw [if_neg (by omega), if_pos c4, ← et]
    exact htail
  · rw [if_pos (by omega), if_neg c4, chk_pos (by omega), tb_drop (by omega), List.take_of_length_le (by rw [tb_len]; omega)]
    have hp := p256pos (e.k + 4 - m)
    have hcont := contains_F (N := N) (l := tb (e.k + 4 - m) (2 * e.low)) (by rw [tb_len]; omega) (by rw [tb_len]; omega)
    have hA0 : 0 ≤ 2 * e.low / 256 ^ (e.k + 4 - m) := Int.ediv_nonneg (by have := h.l0; omega) (by omega)
    by_cases c5 : 2 * e.low % 256 ^ (e.k + 4 - m) = 0
    · have et : e.top m = 2 * e.low / 256 ^ (e.k + 4 - m) := by unfold E.top; rw [if_neg c4, if_pos c5, Int.add_zero]
      rw [hcont.1 (fun j _ => by rw [tb_zeros _ _ c5]; simp [zeros, List.getD_eq_getElem?_getD, List.getElem?_replicate]; split <;> rfl), obind_of, br_false, ← et]
      exact htail
    · have et : e.top m = 2 * e.low / 256 ^ (e.k + 4 - m) + 1 := by unfold E.top; rw [if_neg c4, if_neg c5]
      obtain ⟨f1, f2, f3, f4, f5⟩ := E.out_fit h ht
      obtain ⟨o1, o2, o3, o4⟩ := E.out_facts h m
      have hinc := increase_F (N := N) (n := m) (p := 0) (Y := 2 * e.low / 256 ^ (e.k + 4 - m)) hA0 (by rw [Int.pow_zero]; omega) (by have := E.tell_pos h; omega) (by omega) (by omega)
      rw [Int.pow_zero, ← et] at hinc
      rw [hcont.2 (fun ha => ?_), obind_of, br_true]
      · rw [show ((0 : Nat) : Int) = 0 from rfl] at hinc
        rw [hinc, obind_of]
        exact htail
      · obtain ⟨x, hx, hx0⟩ := tb_some _ _ c5
        obtain ⟨j, hj, rfl⟩ := List.mem_iff_getElem.1 hx
        have := ha j hj
        rw [List.getD_eq_getElem?_getD, List.getElem?_eq_getElem hj] at this
        exact hx0 this
end
end Go.Pl
/-
  Chapter 4 in plain words: numbers that are small as a rule.
  Conditions: none.
-/
namespace Go.Pl
open Go.Eng Go.Proofs
def Lp.it (decay : Int) : Nat → Lp → Lp
  | 0, p => p
  | n + 1, p => Lp.it decay n (p.step decay)
structure Lp.Sm (p : Lp) : Prop where
  s0 : 1 ≤ p.s
  s1 : p.s ≤ 20000
theorem Lp.Sm.step {decay : Int} (d0 : 0 ≤ decay) (d1 : decay ≤ 16000) {p : Lp} (h : p.Sm) : (p.step decay).Sm ∧ 0 ≤ (2 * p.s - 2) * decay ∧ (2 * p.s - 2) * decay ≤ (2 * p.s - 2) * 16000 := by
  obtain ⟨h3, h4⟩ := h
  have k1 : 0 ≤ (2 * p.s - 2) * decay := Int.mul_nonneg (by omega) d0
  have k2 : (2 * p.s - 2) * decay ≤ (2 * p.s - 2) * 16000 := Int.mul_le_mul_of_nonneg_left d1 (by omega)
  exact ⟨⟨by simp only [Lp.step]; omega, by simp only [Lp.step]; omega⟩, k1, k2⟩
theorem Lp.it_facts {decay : Int} (d0 : 0 ≤ decay) (d1 : decay ≤ 16000) : ∀ (n : Nat) (p : Lp), p.Sm → (Lp.it decay n p).Sm ∧ p.l + 2 * n ≤ (Lp.it decay n p).l ∧ (Lp.it decay n p).v = p.v + n
  | 0, p, h => ⟨h, by simp [Lp.it], by simp [Lp.it]⟩
  | n + 1, p, h => by
    obtain ⟨h1, h2, h3⟩ := Lp.it_facts d0 d1 n (p.step decay) (h.step d0 d1).1
    have := h.s0
    simp only [Lp.it]
    refine ⟨h1, ?_, ?_⟩
    · simp only [Lp.step] at h2; simp only [Lp.step]; omega
    · simp only [Lp.step] at h3; simp only [Lp.step]; omega
theorem Lp.it_one {decay : Int} : ∀ (n : Nat) (p : Lp), p.s = 1 → Lp.it decay n p = ⟨p.l + 2 * n, p.v + n, 1⟩
  | 0, p, h => by cases p; simp at h; subst h; simp [Lp.it]
  | n + 1, p, h => by
    have hs : p.step decay = ⟨p.l + 2, p.v + 1, 1⟩ := by simp [Lp.step, h]
    simp only [Lp.it]
    rw [hs, Lp.it_one n _ rfl, Lp.mk.injEq]
    exact ⟨by simp only; omega, by simp only; omega, rfl⟩
def lapOf (f : Int) (p : Lp) : Lp := if f < p.l + p.s then ⟨p.l, -p.v, p.s⟩ else ⟨p.l + p.s, p.v, p.s⟩
theorem lap_it {decay f : Int} (d0 : 0 ≤ decay) (d1 : decay ≤ 16000) : ∀ (i n : Nat) (p : Lp), p.Sm → f < p.l + 4 * n → (Lp.it decay i p).l ≤ f → f < (Lp.it decay i p).l + 2 * (Lp.it decay i p).s →
    lapEnd f (Lp.run decay f n p) = lapOf f (Lp.it decay i p)
  | 0, n, p, h, hn, h1, h2 => by
    simp only [Lp.it] at h1 h2 ⊢
    have hr : Lp.run decay f n p = p := by
      cases n with
      | zero => rfl
      | succ n => simp only [Lp.run]; rw [if_neg (by omega)]
    rw [hr]
    unfold lapEnd lapOf
    have := h.s0
    by_cases hs : p.s ≤ 1
    · have e1 : (f - p.l) / 2 = 0 := by omega
      simp only [if_pos hs, e1]
      simp
    · simp only [if_neg hs]
  | i + 1, 0, p, h, hn, h1, h2 => by
    have := (Lp.it_facts d0 d1 (i + 1) p h).2.1
    omega
  | i + 1, n + 1, p, h, hn, h1, h2 => by
    obtain ⟨g1, g2, g3⟩ := Lp.it_facts d0 d1 i (p.step decay) (h.step d0 d1).1
    simp only [Lp.it] at h1 h2
    have hs0 := h.s0
    by_cases hs : 1 < p.s
    · have el : (p.step decay).l = p.l + 2 * p.s := rfl
      have : p.l + 2 * p.s ≤ f := by omega
      simp only [Lp.run]
      rw [if_pos ⟨hs, this⟩]
      exact lap_it d0 d1 i n _ (h.step d0 d1).1 (by rw [el]; omega) h1 h2
    · have h1s : p.s = 1 := by omega
      have hr : Lp.run decay f (n + 1) p = p := by simp only [Lp.run]; rw [if_neg (by omega)]
      have hi := Lp.it_one (decay := decay) (i + 1) p h1s
      simp only [Lp.it] at hi
      rw [hi] at h1 h2
      simp only [Lp.it]
      rw [hr, hi]
      simp only at h1 h2
      have e1 : (f - p.l) / 2 = ((i + 1 : Nat) : Int) := by omega
      unfold lapEnd lapOf
      simp only [e1, h1s, Int.le_refl, if_true]
def plR (decay up sg : Int) (i : Nat) (p : Lp) : Int × Int × Int :=
  (sg * (Lp.it decay i p).v, (Lp.it decay i p).l + up * (Lp.it decay i p).s, min ((Lp.it decay i p).l + up * (Lp.it decay i p).s + (Lp.it decay i p).s) 32768)
def plOut (decay up : Int) (i : Nat) (p : Lp) : Prop := (Lp.it decay i p).l + up * (Lp.it decay i p).s ≥ 32768
theorem start_sm {fs decay : Int} (h0 : 256 ≤ fs) (h1 : fs ≤ 28000) (d0 : 0 ≤ decay) (d1 : decay ≤ 16000) : (Lp.start fs decay).Sm ∧ (Lp.start fs decay).l + (Lp.start fs decay).s < 32768 ∧ 0 ≤ (32736 - fs) * (16384 - decay) ∧ (32736 - fs) * (16384 - decay) ≤ (32736 - fs) * 16384 := by
  have k1 : 0 ≤ (32736 - fs) * (16384 - decay) := Int.mul_nonneg (by omega) (by omega)
  have k2 : (32736 - fs) * (16384 - decay) ≤ (32736 - fs) * 16384 := Int.mul_le_mul_of_nonneg_left (by omega) (by omega)
  exact ⟨⟨by simp only [Lp.start]; omega, by simp only [Lp.start]; omega⟩, by simp only [Lp.start]; omega, k1, k2⟩
structure Lap (fs decay v : Int) (r : Int × Int × Int) : Prop where
  z : v = 0 → r = (0, 0, fs)
  nz : v ≠ 0 → ∃ (up sg : Int) (i : Nat), (0 < v ∧ up = 1 ∧ sg = 1 ∨ v < 0 ∧ up = 0 ∧ sg = -1) ∧ i < 16300 ∧ (∀ j, j ≤ i → ¬ plOut decay up j (Lp.start fs decay)) ∧ 1 + (i : Int) ≤ sg * v ∧ (1 + (i : Int) = sg * v ∨ plOut decay up (i + 1) (Lp.start fs decay)) ∧ r = plR decay up sg i (Lp.start fs decay)
theorem Lap.place {fs decay v : Int} {r : Int × Int × Int} (h0 : 256 ≤ fs) (h1 : fs ≤ 28000) (d0 : 0 ≤ decay) (d1 : decay ≤ 16000) (h : Lap fs decay v r) :
    Place r.2.1 r.2.2 32768 ∧ (∀ f, r.2.1 ≤ f → f < r.2.2 → (lapAt f fs decay).l = r.2.1 ∧ lapH (lapAt f fs decay) = r.2.2 ∧ (lapAt f fs decay).v = r.1) ∧ (0 ≤ v → 0 ≤ r.1 ∧ r.1 ≤ v) ∧ (v ≤ 0 → r.1 ≤ 0 ∧ v ≤ r.1) := by
  obtain ⟨sm, sl, _, _⟩ := start_sm h0 h1 d0 d1
  by_cases hz : v = 0
  · rw [h.z hz]
    refine ⟨⟨by omega, by omega, by simp only; omega, by simp only; omega, by simp only; omega⟩, fun f f0 f1 => ?_, fun _ => by simp only; omega, fun _ => by simp only; omega⟩
    simp only at f0 f1
    unfold lapAt
    rw [if_neg (by omega)]
    refine ⟨rfl, ?_, rfl⟩
    unfold lapH
    simp only
    omega
  · obtain ⟨up, sg, i, hu, hi, i1, i2, i3, rfl⟩ := h.nz hz
    obtain ⟨g1, g2, g3⟩ := Lp.it_facts d0 d1 i (Lp.start fs decay) sm
    have hno := i1 i (Nat.le_refl _)
    unfold plOut at hno
    have hv : (Lp.start fs decay).v = 1 := rfl
    have hl : (Lp.start fs decay).l = fs := rfl
    obtain ⟨s0, s1⟩ := g1
    unfold plR
    have hus : 0 ≤ up * (Lp.it decay i (Lp.start fs decay)).s ∧ up * (Lp.it decay i (Lp.start fs decay)).s ≤ (Lp.it decay i (Lp.start fs decay)).s := by
      rcases hu with ⟨_, rfl, _⟩ | ⟨_, rfl, _⟩ <;> simp <;> omega
    refine ⟨⟨by omega, by omega, by simp only; omega, by simp only; omega, by simp only; omega⟩, fun f f0 f1 => ?_, fun hp => ?_, fun hp => ?_⟩
    · simp only at f0 f1 ⊢
      have hf : f < (Lp.it decay i (Lp.start fs decay)).l + 2 * (Lp.it decay i (Lp.start fs decay)).s := by omega
      unfold lapAt
      rw [if_pos (show f ≥ fs by omega), lap_it d0 d1 i 8192 (Lp.start fs decay) sm (by omega) (by omega) hf]
      unfold lapOf lapH
      rcases hu with ⟨_, rfl, rfl⟩ | ⟨_, rfl, rfl⟩
      · simp only [Int.one_mul] at f0 f1 ⊢
        rw [if_neg (by omega)]
        simp
      · simp only [Int.zero_mul, Int.add_zero] at f0 f1 ⊢
        rw [if_pos (by omega)]
        simp only [true_and]
        omega
    · rcases hu with ⟨_, rfl, rfl⟩ | ⟨hn, _⟩
      · simp only [Int.one_mul] at i2 ⊢; omega
      · omega
    · rcases hu with ⟨hn, _⟩ | ⟨_, rfl, rfl⟩
      · omega
      · simp only at i2 ⊢; omega
end Go.Pl
/-
  Chapter 4 in plain words: each writing, and what a reader finds of it.
  Conditions: none.
-/
namespace Go.Pl
open Go.Eng Go.Proofs
structure E.Low (e : E) : Prop where
  k : e.k ≤ 10000
  r : e.r ≤ 100000
theorem E.Low.lim {N : Nat} {e : E} (h : e.Low) (hN : 30000 ≤ N) : e.Lim N := ⟨by have := h.k; omega, by have := h.r; omega, by have := h.k; omega⟩
def E.new : E := ⟨0, 0, 2147483648, 0, 0⟩
theorem E.new_ok : E.new.Ok := ⟨⟨by decide, by decide, by decide, by decide, by decide, by decide⟩, by decide⟩
theorem E.new_low : E.new.Low := ⟨by decide, by decide⟩
theorem E.new_tell : E.new.tell = 1 := by decide +kernel
theorem enew_F {N : Nat} : Rc.enew.F N = some (E.new.val, E.new.rng, (E.new.r : Int), E.new.count, E.new.told, E.new.bits) := rfl
theorem E.new_rd {b : List Int} (hb : Bytes b) : E.new.rd b = Q.new b := by
  have h0 := nb_range hb 0
  have h1 := nb_range hb 1
  have h2 := nb_range hb 2
  have h3 := nb_range hb 3
  have e : Q.new b = (((Q.new0 b).step b).step b).step b := by
    unfold Q.new Q.on Q.norm
    rw [if_pos (show (Q.new0 b).rng ≤ 8388608 from by show (128 : Int) ≤ 8388608; decide)]
    unfold Q.norm
    rw [if_pos (show ((Q.new0 b).step b).rng ≤ 8388608 from by show (128 * 256 : Int) ≤ 8388608; decide)]
    unfold Q.norm
    rw [if_pos (show (((Q.new0 b).step b).step b).rng ≤ 8388608 from by show (128 * 256 * 256 : Int) ≤ 8388608; decide)]
    unfold Q.norm
    rw [if_neg (show ¬ ((((Q.new0 b).step b).step b).step b).rng ≤ 8388608 from by show ¬ (128 * 256 * 256 * 256 : Int) ≤ 8388608; decide)]
  rw [e]
  simp only [E.rd, E.new, Q.step, Q.new0, cp, Nat.zero_add]
  congr 1
  generalize nb b 0 = x0 at *
  generalize nb b 1 = x1 at *
  generalize nb b 2 = x2 at *
  generalize nb b 3 = x3 at *
  omega
theorem E.bt_tell (e : E) (v : Int) (n : Nat) : (e.bt v n).tell = e.tell + n := by
  simp only [E.tell, E.count, E.bt]
  omega
section
variable {N : Nat}
end
section
variable {b : List Int} {e : E}
theorem E.bt_back (hb : Bytes b) (h : e.Ok) {v : Int} {n : Nat} (hn : n ≤ 24) (v0 : 0 ≤ v) (v1 : v < 2 ^ n) (hf : (e.bt v n).Fit b) {w : W} (hw : w.At b e.r) : e.Fit b ∧ w.val b n = v ∧ (w.next b n).At b (e.bt v n).r ∧ (e.bt v n).rd b = e.rd b := by
  obtain ⟨h1, h2⟩ := E.bt_fit h v0 v1 hf
  obtain ⟨h3, h4⟩ := hw.next hb hn
  exact ⟨h1, by rw [h3, h2], h4, rfl⟩
theorem E.us_back (hb : Bytes b) (h : e.Ok) {v ft : Int} (v0 : 0 ≤ v) (v1 : v < ft) (f0 : 1 < ft) (f1 : ft ≤ 256) (hf : (e.un v ft).Fit b) : e.Fit b ∧ (e.rd b).ch ft = v ∧ (e.un v ft).rd b = (e.rd b).un b ft ∧ (e.un v ft).r = e.r := by
  have eu : e.un v ft = e.tk v (v + 1) ft := by unfold E.un; rw [if_neg (by omega), if_pos f1]
  rw [eu] at hf ⊢
  have p := un_place v0 v1 f1
  obtain ⟨t1, t2, t3⟩ := E.tk_rd hb h p hf.i
  have hc : (e.rd b).ch ft = v := by omega
  refine ⟨E.tk_fit hb h p hf, hc, ?_, (E.tk_same e _ _ _).1⟩
  unfold Q.un
  rw [if_pos f1, hc, t3]
theorem E.ug_back (hb : Bytes b) (h : e.Ok) {v ft : Int} (v0 : 0 ≤ v) (v1 : v < ft) (f0 : 256 < ft) (f1 : ft ≤ 4294967295) (hf : (e.un v ft).Fit b) {w : W} (hw : w.At b e.r) :
    e.Fit b ∧ uv b (e.rd b) w ft = v ∧ (e.un v ft).rd b = (e.rd b).un b ft ∧ (w.next b (ub ft)).At b (e.un v ft).r ∧ (e.un v ft).r = e.r + ub ft := by
  have eu : e.un v ft = (e.tk (v / 2 ^ ub ft) (v / 2 ^ ub ft + 1) (uf ft)).bt (v % 2 ^ ub ft) (ub ft) := by unfold E.un; rw [if_neg (by omega), if_neg (by omega)]
  rw [eu] at hf ⊢
  obtain ⟨p, q0, q1⟩ := ug_place v0 v1 f0 f1
  obtain ⟨b0, b1, _⟩ := ub_range f0 f1
  have hs := E.tk_same e (v / 2 ^ ub ft) (v / 2 ^ ub ft + 1) (uf ft)
  have hok := E.tk_ok h p
  obtain ⟨g1, g2, g3, g4⟩ := E.bt_back hb hok b1 (Int.emod_nonneg _ (by have := p2pos (ub ft); omega)) (Int.emod_lt_of_pos _ (p2pos _)) hf (w := w) (by rw [hs.1]; exact hw)
  obtain ⟨t1, t2, t3⟩ := E.tk_rd hb h p g1.i
  have hc : (e.rd b).ch (uf ft) = v / 2 ^ ub ft := by omega
  refine ⟨E.tk_fit hb h p g1, ?_, ?_, g3, by simp only [E.bt, hs.1]⟩
  · unfold uv
    rw [hc, g2, Int.mul_comm]
    exact Int.mul_ediv_add_emod v _
  · rw [g4, t3]
    unfold Q.un
    rw [if_neg (by omega), hc]
end
end Go.Pl
/-
  Layer 20's statements stand here in the place of layer 19's.
  Conditions: none.
-/
/-
  Layer 19, common parts: what is expected, the reading of energies by the program and by its plain twin.
  Conditions: none.
-/
namespace Go.Pl
open Go.Eng Go.Proofs
def cl (v : Int) : Int := if v < 0 then 0 else if v > 100 then 100 else v
theorem cl_range (v : Int) : 0 ≤ cl v ∧ cl v ≤ 100 := by
  unfold cl
  split
  · omega
  · split <;> omega
theorem eclamp_F {N : Nat} (v : Int) : Rc.eclamp.F N v = some (cl v) := by
  unfold Rc.eclamp.F cl
  congr 1
  split <;> split <;> first | rfl | omega | (exfalso; omega) | (split <;> first | rfl | (exfalso; omega))
section
variable {N : Nat} {back window wait waiting eq : Int} {bad : Bool} {b : List Int}
end
end Go.Pl
/-
  Layer 19: the sizes of the energies, and which number is nearest.
  Conditions: none.
-/
namespace Go.Pl
open Go.Eng Go.Proofs
set_option maxRecDepth 100000
def szT : List Int := [1, 1, 1, 2, 2, 2, 3, 3, 4, 5, 6, 7, 8, 10, 11, 13, 16, 19, 23, 27, 32, 38, 45, 54, 64, 76, 91, 108, 128, 152, 181, 215, 256, 304, 362, 431, 512, 609, 724, 861, 1024, 1218, 1448, 1722, 2048, 2435, 2896, 3444, 4096, 4871, 5793, 6889, 8192, 9742, 11585, 13777, 16384, 19484, 23170, 27554, 32768, 38968, 46341, 55109, 65536, 77936, 92682, 110218, 131072, 155872, 185364, 220436, 262144, 311744, 370728, 440872, 524288, 623487, 741455, 881744, 1048576, 1246974, 1482910, 1763488, 2097152, 2493948, 2965821, 3526975, 4194304, 4987896, 5931642, 7053950, 8388608, 9975792, 11863283, 14107901, 16777216, 19951585, 23726566, 28215802, 33554432]
def sz (i : Int) : Int := szT.getD i.toNat 0
theorem exp2_all (N : Nat) : (List.range 101).map (fun (i : Nat) => Rc.exp2.F (N + 1000) (64 * (i : Int))) = szT.map some := by kernel_rfl
theorem rexp2_all (N : Nat) : (List.range 101).map (fun (i : Nat) => Rc.rexp2.F (N + 1000) (64 * (i : Int))) = szT.map some := by kernel_rfl
theorem sz_bnd : ∀ i : Fin 101, 0 ≤ szT.getD i.val 0 ∧ szT.getD i.val 0 ≤ 33554432 := by decide +kernel
theorem of_all {f : Nat → Option Int} (h : (List.range 101).map f = szT.map some) {i : Nat} (hi : i ≤ 100) : f i = some (szT.getD i 0) := by
  have e := congrArg (fun l => l[i]?) h
  simp only [List.getElem?_map] at e
  have hl : szT.length = 101 := by decide +kernel
  rw [List.getElem?_range (by omega), List.getElem?_eq_getElem (by omega)] at e
  simp only [Option.map_some, Option.some.injEq] at e
  rw [e, List.getD_eq_getElem?_getD, List.getElem?_eq_getElem (by omega)]
  rfl
theorem sz_range {a : Int} (h0 : 0 ≤ a) (h1 : a ≤ 100) : 0 ≤ sz a ∧ sz a ≤ 33554432 := sz_bnd ⟨a.toNat, by omega⟩
section
variable {N : Nat}
theorem esize_F (hN : 1000 ≤ N) (v : Int) : Rc.esize.F N v = some (sz (cl v)) := by
  obtain ⟨k, rfl⟩ : ∃ k, N = k + 1000 := ⟨N - 1000, by omega⟩
  have hc := cl_range v
  have h := of_all (exp2_all k) (i := (cl v).toNat) (by omega)
  rw [show ((cl v).toNat : Int) = cl v by omega] at h
  unfold Rc.esize.F
  rw [eclamp_F, obind_of, i64 (by omega) (by omega), h, obind_of]
  rfl
end
def ds (v i : Int) : Int := if v ≤ sz i then sz i - v else v - sz i
def cut (v : Int) : Int := if v < 0 then 0 else if v > 67108864 then 67108864 else v
section
variable {N : Nat}
end
end Go.Pl
/-
  Layer 20: pieces, their shares of the bits, and how many pulses these tell: both books alike.
  Conditions: none.
-/
namespace Go.Pl
open Go.Eng Go.Proofs
def seqL (f : Nat → Int) : Nat → Nat → List Int
  | _, 0 => []
  | i, m + 1 => f i :: seqL f (i + 1) m
theorem seqL_len (f : Nat → Int) : ∀ (m i : Nat), (seqL f i m).length = m
  | 0, _ => rfl
  | m + 1, i => by simp [seqL, seqL_len f m]
theorem seqL_get (f : Nat → Int) : ∀ (m i j : Nat), j < m → (seqL f i m).getD j 0 = f (i + j)
  | 0, _, _, h => by omega
  | m + 1, i, 0, _ => by simp [seqL]
  | m + 1, i, j + 1, h => by
    have := seqL_get f m (i + 1) j (by omega)
    simp only [seqL, List.getD_cons_succ]
    rw [this, show i + 1 + j = i + (j + 1) by omega]
def pN (n : Int) : Nat := ((n + 15) / 16).toNat
def pcv (n : Int) (i : Nat) : Int := ((i : Int) + 1) * n / pN n - (i : Int) * n / pN n
def pcs (n : Int) : List Int := seqL (pcv n) 0 (pN n)
theorem pN_range {n : Int} (h0 : 1 ≤ n) (h1 : n ≤ 1000) : 1 ≤ pN n ∧ pN n ≤ 63 ∧ (pN n : Int) = (n + 15) / 16 := by unfold pN; omega
theorem pc_small {n : Int} (h0 : 1 ≤ n) (h1 : n ≤ 1000) {i : Nat} (hi : i ≤ 63) : 0 ≤ (i : Int) * n ∧ (i : Int) * n ≤ 63000 := by
  have a := Int.mul_le_mul (show (i : Int) ≤ 63 by omega) h1 (by omega) (by omega)
  have b := Int.mul_nonneg (show (0 : Int) ≤ i by omega) (show 0 ≤ n by omega)
  omega
theorem pc_div {n : Int} (h0 : 1 ≤ n) (h1 : n ≤ 1000) (i : Nat) : (i : Int) * n / pN n + 1 ≤ ((i : Int) + 1) * n / pN n ∧ ((i : Int) + 1) * n / pN n ≤ (i : Int) * n / pN n + 16 := by
  obtain ⟨p0, _, p2⟩ := pN_range h0 h1
  have e : ((i : Int) + 1) * n = i * n + n := by grind
  rw [e]
  generalize (i : Int) * n = x
  generalize (pN n : Int) = p at *
  have q1 := Int.mul_ediv_add_emod x p
  have q2 := Int.emod_nonneg x (show p ≠ 0 by omega)
  have q3 := Int.emod_lt_of_pos x (show 0 < p by omega)
  constructor
  · rw [Int.le_ediv_iff_mul_le (by omega)]
    have : (x / p + 1) * p = p * (x / p) + p := by grind
    omega
  · have : (x + n) / p < x / p + 17 := by
      rw [Int.ediv_lt_iff_lt_mul (by omega)]
      have : (x / p + 17) * p = p * (x / p) + 17 * p := by grind
      omega
    omega
theorem pcv_range {n : Int} (h0 : 1 ≤ n) (h1 : n ≤ 1000) (i : Nat) : 1 ≤ pcv n i ∧ pcv n i ≤ 16 := by
  have := pc_div h0 h1 i
  unfold pcv
  omega
section
variable {N : Nat}
theorem rclamp100b (v : Int) : Rc.rclamp.F N v 0 100 = some (cl v) := by
  unfold Rc.rclamp.F cl
  simp only [br_dec]
  by_cases c1 : v < 0
  · rw [if_pos c1, if_pos c1]
  by_cases c2 : v > 100
  · rw [if_neg c1, if_pos c2, if_neg c1, if_neg (by omega), if_pos c2]
  · rw [if_neg c1, if_neg c2, if_neg c1, if_neg (by omega), if_neg c2]
theorem rsizeb_F (hN : 1000 ≤ N) (v : Int) : Rc.rsize.F N v = some (sz (cl v)) := by
  obtain ⟨k, rfl⟩ : ∃ k, N = k + 1000 := ⟨N - 1000, by omega⟩
  have hc := cl_range v
  have h := of_all (rexp2_all k) (i := (cl v).toNat) (by omega)
  rw [show ((cl v).toNat : Int) = cl v by omega] at h
  unfold Rc.rsize.F
  rw [rclamp100b, obind_of, i64 (by omega) (by omega), h, obind_of]
  rfl
theorem apieces_F {n : Int} (h0 : 1 ≤ n) (h1 : n ≤ 1000) : Rc.apieces.F N n = some (pN n : Int) := by
  unfold Rc.apieces.F
  simp only [br_dec]
  obtain ⟨p0, _, p2⟩ := pN_range h0 h1
  rw [if_neg (by omega), if_neg (by omega), i64 (x := n + 16) (by omega) (by omega), i64 (x := n + 16 - 1) (by omega) (by omega), tdiv_ediv (by omega), i64 (by omega) (by omega), p2, show n + 16 - 1 = n + 15 by omega]
theorem pcs_step {n : Int} (h0 : 1 ≤ n) (h1 : n ≤ 1000) {i : Nat} (hi : i < 63) :
    IntKind.i64.wrap (IntKind.i64.wrap ((IntKind.i64.wrap (IntKind.i64.wrap ((i : Int) + 1) * n)).tdiv (pN n : Int)) - IntKind.i64.wrap ((IntKind.i64.wrap ((i : Int) * n)).tdiv (pN n : Int))) = pcv n i := by
  have a := pc_small h0 h1 (i := i) (by omega)
  have b := pc_small h0 h1 (i := i + 1) (by omega)
  rw [show ((i + 1 : Nat) : Int) = (i : Int) + 1 by omega] at b
  obtain ⟨p0, _, _⟩ := pN_range h0 h1
  have d1 := Int.ediv_nonneg a.1 (show (0 : Int) ≤ pN n by omega)
  have d2 := Int.ediv_nonneg b.1 (show (0 : Int) ≤ pN n by omega)
  have d3 := Int.ediv_le_self (pN n : Int) a.1
  have d4 := Int.ediv_le_self (pN n : Int) b.1
  rw [i64 (x := (i : Int) + 1) (by omega) (by omega), i64 (x := ((i : Int) + 1) * n) (by omega) (by omega), i64 (x := (i : Int) * n) (by omega) (by omega), tdiv_ediv b.1, tdiv_ediv a.1, i64 (x := ((i : Int) + 1) * n / pN n) (by omega) (by omega), i64 (x := (i : Int) * n / pN n) (by omega) (by omega), i64 (x := ((i : Int) + 1) * n / pN n - (i : Int) * n / pN n) (by omega) (by omega)]
  rfl
theorem aPieces_loop {n : Int} (h0 : 1 ≤ n) (h1 : n ≤ 1000) : ∀ (nn m i : Nat) (A : List Int), i + m = pN n → A.length ≤ 100 + i → m < nn →
    Rc.aPieces.loop4 N nn n (pN n) (pN n) i A = some (A ++ seqL (pcv n) i m)
  | 0, _, _, _, _, _, h => by omega
  | nn + 1, 0, i, A, hi, hA, h => by
    unfold Rc.aPieces.loop4
    simp only [br_dec]
    rw [if_neg (by omega)]
    simp [seqL]
  | nn + 1, m + 1, i, A, hi, hA, h => by
    obtain ⟨p0, p1, _⟩ := pN_range h0 h1
    unfold Rc.aPieces.loop4
    simp only [br_dec, chkI_same]
    rw [if_pos (by omega), chk_pos (by omega), chk_pos (by omega), pcs_step h0 h1 (by omega), chk_pos (by simp; omega), i64 (x := (i : Int) + 1) (by omega) (by omega)]
    have ih := aPieces_loop h0 h1 nn m (i + 1) (A ++ [pcv n i]) (by omega) (by simp; omega) (by omega)
    rw [show ((i + 1 : Nat) : Int) = (i : Int) + 1 by omega] at ih
    rw [ih]
    simp [seqL]
theorem aPieces_F {n : Int} (h0 : 1 ≤ n) (h1 : n ≤ 1000) (hN : 100 ≤ N) : Rc.aPieces.F N n = some (pcs n) := by
  obtain ⟨p0, p1, _⟩ := pN_range h0 h1
  unfold Rc.aPieces.F
  have h := aPieces_loop (N := N) h0 h1 N (pN n) 0 [] (by omega) (by simp) (by omega)
  rw [show ((0 : Nat) : Int) = 0 from rfl, List.nil_append] at h
  rw [apieces_F h0 h1, obind_of, h, obind_of]
  rfl
theorem rpieces_loop {n : Int} (h0 : 1 ≤ n) (h1 : n ≤ 1000) : ∀ (nn m i : Nat) (A : List Int), i + m = pN n → A.length ≤ 100 + i → m < nn →
    Rc.rpieces.loop6 N nn n (pN n) i A = some (A ++ seqL (pcv n) i m)
  | 0, _, _, _, _, _, h => by omega
  | nn + 1, 0, i, A, hi, hA, h => by
    unfold Rc.rpieces.loop6
    simp only [br_dec]
    rw [if_neg (by omega)]
    simp [seqL]
  | nn + 1, m + 1, i, A, hi, hA, h => by
    obtain ⟨p0, p1, _⟩ := pN_range h0 h1
    unfold Rc.rpieces.loop6
    simp only [br_dec, chkI_same]
    rw [if_pos (by omega), chk_pos (by omega), chk_pos (by omega), pcs_step h0 h1 (by omega), chk_pos (by simp; omega), i64 (x := (i : Int) + 1) (by omega) (by omega)]
    have ih := rpieces_loop h0 h1 nn m (i + 1) (A ++ [pcv n i]) (by omega) (by simp; omega) (by omega)
    rw [show ((i + 1 : Nat) : Int) = (i : Int) + 1 by omega] at ih
    rw [ih]
    simp [seqL]
theorem rpieces_F {n : Int} (h0 : 1 ≤ n) (h1 : n ≤ 1000) (hN : 100 ≤ N) : Rc.rpieces.F N n = some (pcs n) := by
  obtain ⟨p0, p1, p2⟩ := pN_range h0 h1
  unfold Rc.rpieces.F
  simp only [br_dec]
  have h := rpieces_loop (N := N) h0 h1 N (pN n) 0 [] (by omega) (by simp) (by omega)
  rw [show ((0 : Nat) : Int) = 0 from rfl, List.nil_append, p2] at h
  rw [if_neg (by omega), if_neg (by omega), i64 (x := n + 15) (by omega) (by omega), tdiv_ediv (by omega), i64 (by omega) (by omega), h, obind_of]
  rfl
def spv (n b : Int) (i : Nat) : Int := if (i : Int) < b % pN n then b / pN n + 1 else b / pN n
def spl (n b : Int) : List Int := seqL (spv n b) 0 (pN n)
theorem asplit_loop {n b : Int} (h0 : 1 ≤ n) (h1 : n ≤ 1000) (b0 : 0 ≤ b) (b1 : b ≤ 1048576) : ∀ (nn m i : Nat) (A : List Int), i + m = pN n → A.length ≤ 100 + i → m < nn →
    Rc.asplit.loop5 N nn b (pN n) (pN n) i A = some (A ++ seqL (spv n b) i m)
  | 0, _, _, _, _, _, h => by omega
  | nn + 1, 0, i, A, hi, hA, h => by
    unfold Rc.asplit.loop5
    simp only [br_dec]
    rw [if_neg (by omega)]
    simp [seqL]
  | nn + 1, m + 1, i, A, hi, hA, h => by
    obtain ⟨p0, p1, _⟩ := pN_range h0 h1
    have d1 := Int.ediv_nonneg b0 (show (0 : Int) ≤ pN n by omega)
    have d3 := Int.ediv_le_self (pN n : Int) b0
    have ih := asplit_loop h0 h1 b0 b1 nn m (i + 1) (A ++ [spv n b i]) (by omega) (by simp; omega) (by omega)
    rw [show ((i + 1 : Nat) : Int) = (i : Int) + 1 by omega] at ih
    unfold Rc.asplit.loop5
    simp only [br_dec, chkI_same]
    rw [if_pos (by omega), chk_pos (by omega), chk_pos (by omega), tmod_emod b0, tdiv_ediv b0, i64 (x := b / pN n) (by omega) (by omega), i64 (x := b / pN n + 1) (by omega) (by omega), i64 (x := (i : Int) + 1) (by omega) (by omega)]
    by_cases c : (i : Int) < b % pN n
    · have hv : spv n b i = b / pN n + 1 := if_pos c
      rw [hv] at ih
      rw [if_pos c, chk_pos (by simp; omega), ih]
      simp [seqL, hv]
    · have hv : spv n b i = b / pN n := if_neg c
      rw [hv] at ih
      rw [if_neg c, chk_pos (by simp; omega), ih]
      simp [seqL, hv]
theorem asplit_F {n b : Int} (h0 : 1 ≤ n) (h1 : n ≤ 1000) (b0 : 0 ≤ b) (b1 : b ≤ 1048576) (hN : 100 ≤ N) : Rc.asplit.F N n b = some (spl n b) := by
  obtain ⟨p0, p1, _⟩ := pN_range h0 h1
  unfold Rc.asplit.F
  have h := asplit_loop (N := N) h0 h1 b0 b1 N (pN n) 0 [] (by omega) (by simp) (by omega)
  rw [show ((0 : Nat) : Int) = 0 from rfl, List.nil_append] at h
  rw [apieces_F h0 h1, obind_of, if_neg (show ¬ (0 : Int) > b by omega), if_neg (by omega), h, obind_of]
  rfl
theorem rsplit_loop {n b : Int} (h0 : 1 ≤ n) (h1 : n ≤ 1000) (b0 : 0 ≤ b) (b1 : b ≤ 1048576) : ∀ (nn m i : Nat) (A : List Int), i + m = pN n → A.length ≤ 100 + i → m < nn →
    Rc.rsplit.loop5 N nn b (pN n) i A = some (A ++ seqL (spv n b) i m)
  | 0, _, _, _, _, _, h => by omega
  | nn + 1, 0, i, A, hi, hA, h => by
    unfold Rc.rsplit.loop5
    simp only [br_dec]
    rw [if_neg (by omega)]
    simp [seqL]
  | nn + 1, m + 1, i, A, hi, hA, h => by
    obtain ⟨p0, p1, _⟩ := pN_range h0 h1
    have d1 := Int.ediv_nonneg b0 (show (0 : Int) ≤ pN n by omega)
    have d3 := Int.ediv_le_self (pN n : Int) b0
    have ih := rsplit_loop h0 h1 b0 b1 nn m (i + 1) (A ++ [spv n b i]) (by omega) (by simp; omega) (by omega)
    rw [show ((i + 1 : Nat) : Int) = (i : Int) + 1 by omega] at ih
    unfold Rc.rsplit.loop5
    simp only [br_dec, chkI_same]
    rw [if_pos (by omega), chk_pos (by omega), chk_pos (by omega), tmod_emod b0, tdiv_ediv b0, i64 (x := b / pN n) (by omega) (by omega), i64 (x := b / pN n + 1) (by omega) (by omega), i64 (x := (i : Int) + 1) (by omega) (by omega)]
    by_cases c : (i : Int) < b % pN n
    · have hv : spv n b i = b / pN n + 1 := if_pos c
      rw [hv] at ih
      rw [if_pos c, chk_pos (by simp; omega), ih]
      simp [seqL, hv]
    · have hv : spv n b i = b / pN n := if_neg c
      rw [hv] at ih
      rw [if_neg c, chk_pos (by simp; omega), ih]
      simp [seqL, hv]
theorem rsplit_F {n b : Int} (h0 : 1 ≤ n) (h1 : n ≤ 1000) (b0 : 0 ≤ b) (b1 : b ≤ 1048576) (hN : 100 ≤ N) : Rc.rsplit.F N n b = some (spl n b) := by
  obtain ⟨p0, p1, _⟩ := pN_range h0 h1
  have hc : Rc.rclamp.F N b 0 1048576 = some b := by
    unfold Rc.rclamp.F
    simp only [br_dec]
    rw [if_neg (by omega), if_neg (by omega), if_neg (by omega)]
  unfold Rc.rsplit.F
  have h := rsplit_loop (N := N) h0 h1 b0 b1 N (pN n) 0 [] (by omega) (by simp) (by omega)
  rw [show ((0 : Nat) : Int) = 0 from rfl, List.nil_append] at h
  rw [hc, obind_of, rpieces_F h0 h1 hN, obind_of, show (pcs n).length = pN n from seqL_len _ _ _, h, obind_of]
  rfl
end
theorem cnt_mono1 (n k : Nat) : cnt (n + 1) k ≤ cnt (n + 1) (k + 1) := by
  rw [cnt_succ]
  have h1 := (cnt_small (n + 1) k)
  have h2 := (cnt_small n (k + 1))
  have h3 := (cnt_small n k)
  omega
theorem cnt_two (n : Nat) : 2 ≤ cnt (n + 1) 1 := by
  have h2 := (cnt_small n (0 + 1))
  rw [show 1 = 0 + 1 from rfl, cnt_succ, cnt_zero, cnt_zero]
  omega
def tells (n : Nat) (b : Int) (k : Nat) : Prop := bl (cnt n k - 1) ≤ b
theorem tells_down {n : Nat} {b : Int} : ∀ {k : Nat} (d : Nat), tells (n + 1) b (k + d) → tells (n + 1) b k
  | _, 0, h => h
  | k, d + 1, h => by
    refine tells_down d ?_
    unfold tells at *
    have := bl_mono (x := cnt (n + 1) (k + d) - 1) (y := cnt (n + 1) (k + (d + 1)) - 1) (by have := cnt_mono1 n (k + d); rw [show k + d + 1 = k + (d + 1) from rfl] at this; omega)
    omega
def kF (n : Nat) (b : Int) : Nat → Nat → Nat
  | 0, k => k
  | f + 1, k => if bl (cnt n (k + 1) - 1) ≤ b then kF n b f (k + 1) else k
theorem kF_spec (n : Nat) (b : Int) : ∀ (f k : Nat), k ≤ kF n b f k ∧ kF n b f k ≤ k + f ∧ (k < kF n b f k → tells n b (kF n b f k)) ∧ (kF n b f k < k + f → ¬ tells n b (kF n b f k + 1))
  | 0, k => by simp [kF]
  | f + 1, k => by
    simp only [kF]
    by_cases c : bl (cnt n (k + 1) - 1) ≤ b
    · rw [if_pos c]
      obtain ⟨a1, a2, a3, a4⟩ := kF_spec n b f (k + 1)
      refine ⟨by omega, by omega, fun _ => ?_, fun h => a4 (by omega)⟩
      by_cases d : k + 1 < kF n b f (k + 1)
      · exact a3 d
      · rw [show kF n b f (k + 1) = k + 1 by omega]; exact c
    · rw [if_neg c]
      exact ⟨by omega, by omega, fun h => by omega, fun _ => c⟩
def kOf (n : Nat) (b : Int) : Nat := kF n b (mostT n).toNat 0
theorem kOf_le (n : Nat) (b : Int) : (kOf n b : Int) ≤ mostT n ∧ (kOf n b : Int) ≤ 64 := by
  have h := (kF_spec n b (mostT n).toNat 0).2.1
  have := mostT_range n
  unfold kOf
  omega
theorem kOf_tells {n : Nat} {b : Int} (h : 0 < kOf n b) : tells n b (kOf n b) := (kF_spec n b (mostT n).toNat 0).2.2.1 h
theorem kOf_eq {n : Nat} {b : Int} {k : Nat} (hk : k ≤ (mostT (n + 1 : Nat)).toNat) (h1 : 0 < k → tells (n + 1) b k) (h2 : k < (mostT (n + 1 : Nat)).toNat → ¬ tells (n + 1) b (k + 1)) : kOf (n + 1) b = k := by
  obtain ⟨_, a2, a3, a4⟩ := kF_spec (n + 1) b (mostT (n + 1 : Nat)).toNat 0
  change kOf (n + 1) b ≤ _ at a2
  change 0 < kOf (n + 1) b → tells (n + 1) b (kOf (n + 1) b) at a3
  change kOf (n + 1) b < _ → ¬ tells (n + 1) b (kOf (n + 1) b + 1) at a4
  rcases Nat.lt_trichotomy (kOf (n + 1) b) k with c | c | c
  · exact absurd (tells_down (k := kOf (n + 1) b + 1) (k - (kOf (n + 1) b + 1)) (by rw [show kOf (n + 1) b + 1 + (k - (kOf (n + 1) b + 1)) = k by omega]; exact h1 (by omega))) (a4 (by omega))
  · exact c
  · exact absurd (tells_down (k := k + 1) (kOf (n + 1) b - (k + 1)) (by rw [show k + 1 + (kOf (n + 1) b - (k + 1)) = kOf (n + 1) b by omega]; exact a3 (by omega))) (h2 (by omega))
theorem kOf_none {n : Nat} {b : Int} (hb : b < 1) : kOf (n + 1) b = 0 := by
  refine kOf_eq (by omega) (fun h => by omega) fun _ h => ?_
  unfold tells at h
  have := cnt_two n
  have h1 := bl_mono (x := 1) (y := cnt (n + 1) 1 - 1) (by omega)
  have : bl 1 = 1 := by decide +kernel
  rw [show (0 : Nat) + 1 = 1 from rfl] at h
  omega
section
variable {N : Nat}
theorem paid_loop {n : Nat} {b : Int} (n0 : 1 ≤ n) (n1 : n ≤ 16) (hN : 3000 ≤ N) : ∀ (nn f k : Nat), (k : Int) + f ≤ 64 → f < nn →
    Rc.rpaid.loop7 N nn n b ((k : Int) + f) k = some (kF n b f k : Int)
  | 0, _, _, _, h => by omega
  | nn + 1, 0, k, hk, h => by
    unfold Rc.rpaid.loop7
    simp only [br_dec]
    rw [if_neg (by omega)]
    rfl
  | nn + 1, f + 1, k, hk, h => by
    unfold Rc.rpaid.loop7
    simp only [br_dec, chkI_same]
    have hr := cntA_range n (k + 1)
    have hA : cntA n ((k : Int) + 1) = cnt n (k + 1) := by
      unfold cntA
      rw [if_pos (by omega)]
      congr 1
    have hs := cnt_small n (k + 1)
    rw [if_pos (by omega), i64 (x := (k : Int) + 1) (by omega) (by omega), qcount_F _ _ hN, obind_of, hA, i64 (by omega) (by omega), rlen_F (by omega) (by omega), obind_of]
    simp only [kF]
    by_cases c : bl (cnt n (k + 1) - 1) ≤ b
    · have ih := paid_loop (b := b) n0 n1 hN nn f (k + 1) (by omega) (by omega)
      rw [show ((k + 1 : Nat) : Int) + f = (k : Int) + ((f + 1 : Nat) : Int) by omega, show ((k + 1 : Nat) : Int) = (k : Int) + 1 by omega] at ih
      rw [if_pos c, if_pos c, ih]
    · rw [if_neg c, if_neg c]
theorem rpaid_F {n : Nat} {b : Int} (n0 : 1 ≤ n) (n1 : n ≤ 16) (hN : 3000 ≤ N) : Rc.rpaid.F N n b = some (kOf n b : Int) := by
  unfold Rc.rpaid.F
  simp only [br_dec]
  have hm := mostT_range n
  rw [if_neg (by omega), if_neg (by omega)]
  by_cases c : b < 1
  · obtain ⟨m, rfl⟩ : ∃ m, n = m + 1 := ⟨n - 1, by omega⟩
    rw [if_pos c, kOf_none c]
    rfl
  · have h := paid_loop (N := N) (b := b) n0 n1 hN N (mostT n).toNat 0 (by omega) (by omega)
    rw [show ((0 : Nat) : Int) + ((mostT n).toNat : Int) = mostT n by omega, show ((0 : Nat) : Int) = 0 from rfl] at h
    rw [if_neg c, qmost_F, obind_of, h, obind_of]
    rfl
theorem pulses_loop {n : Nat} {b : Int} (n1 : n + 1 ≤ 16) (hN : 3000 ≤ N) : ∀ (nn lo hi : Nat), lo ≤ hi → hi ≤ (mostT (n + 1 : Nat)).toNat → (0 < lo → tells (n + 1) b lo) → (hi < (mostT (n + 1 : Nat)).toNat → ¬ tells (n + 1) b (hi + 1)) → hi - lo < nn →
    Rc.apulses.loop2 N nn (n + 1 : Nat) b lo hi = some (kOf (n + 1) b : Int)
  | 0, _, _, _, _, _, _, h => by omega
  | nn + 1, lo, hi, h0, h1, h2, h3, h => by
    have hm := mostT_range (n + 1 : Nat)
    unfold Rc.apulses.loop2
    simp only [br_dec, chkI_same]
    by_cases c : lo < hi
    · have hmid : IntKind.i64.wrap ((IntKind.i64.wrap (IntKind.i64.wrap ((lo : Int) + hi) + 1)).tdiv 2) = (((lo + hi + 1) / 2 : Nat) : Int) := by
        rw [i64 (x := (lo : Int) + hi) (by omega) (by omega), i64 (x := (lo : Int) + hi + 1) (by omega) (by omega), tdiv_ediv (by omega), i64 (by omega) (by omega)]
        omega
      obtain ⟨m, hmm⟩ : ∃ m, (lo + hi + 1) / 2 = m + 1 := ⟨(lo + hi + 1) / 2 - 1, by omega⟩
      rw [hmm] at hmid
      have hA : cntA (n + 1 : Nat) ((m + 1 : Nat) : Int) = cnt (n + 1) (m + 1) := by
        unfold cntA
        rw [if_pos (by omega), Int.toNat_natCast, Int.toNat_natCast]
      have hs := cnt_small (n + 1) (m + 1)
      have hp := cnt_pos n (m + 1)
      have hl : Rc.flen.F N (cnt (n + 1) (m + 1) - 1) = some (bl (cnt (n + 1) (m + 1) - 1)) := by
        unfold Rc.flen.F
        simp only [br_dec]
        by_cases d : cnt (n + 1) (m + 1) - 1 ≤ 0
        · rw [if_pos d, bl_zero d]
        · rw [if_neg d, u64 (by omega) (by omega), len64_F (by omega) (by omega), obind_of]
      rw [if_pos (by omega), hmid, pcount_F _ _ hN, obind_of, hA, i64 (by omega) (by omega), hl, obind_of]
      by_cases d : bl (cnt (n + 1) (m + 1) - 1) ≤ b
      · rw [if_pos d]
        exact pulses_loop n1 hN nn (m + 1) hi (by omega) h1 (fun _ => d) h3 (by omega)
      · rw [if_neg d, i64 (by omega) (by omega), show ((m + 1 : Nat) : Int) - 1 = (m : Int) by omega]
        exact pulses_loop n1 hN nn lo m (by omega) (by omega) h2 (fun _ => d) (by omega)
    · rw [if_neg (by omega)]
      rw [kOf_eq (k := lo) (by omega) h2 (fun hh => by have := h3 (by omega); rwa [show hi = lo by omega] at this)]
theorem apulses_F {n : Nat} {b : Int} (n0 : 1 ≤ n) (n1 : n ≤ 16) (hN : 3000 ≤ N) : Rc.apulses.F N n b = some (kOf n b : Int) := by
  obtain ⟨m, rfl⟩ : ∃ m, n = m + 1 := ⟨n - 1, by omega⟩
  have hm := mostT_range (m + 1 : Nat)
  unfold Rc.apulses.F
  have h := pulses_loop (N := N) (b := b) n1 hN N 0 (mostT (m + 1 : Nat)).toNat (by omega) (by omega) (fun h => by omega) (fun h => by omega) (by omega)
  rw [show (((mostT (m + 1 : Nat)).toNat : Nat) : Int) = mostT (m + 1 : Nat) by omega, show ((0 : Nat) : Int) = 0 from rfl] at h
  rw [pmost_F _ hN, obind_of, h, obind_of]
end
end Go.Pl
/-
  Layer 17: what is written is read; any bytes are read by both in one way.
  Conditions: none.
-/
namespace Go.Pl
open Go.Eng Go.Proofs
set_option maxRecDepth 100000
theorem un_same17 {e : E} {v ft : Int} : (ft ≤ 256 → (e.un v ft).r = e.r ∧ (e.un v ft).raw = e.raw) ∧ e.k ≤ (e.un v ft).k ∧ (e.un v ft).k ≤ e.k + 4 ∧ e.r ≤ (e.un v ft).r ∧ (256 < ft → (e.un v ft).r = e.r + ub ft) := by
  unfold E.un
  split
  · exact ⟨fun _ => ⟨rfl, rfl⟩, by omega, by omega, by omega, fun h => by omega⟩
  · split
    · have := E.tk_same e v (v + 1) ft
      exact ⟨fun _ => ⟨this.1, this.2.1⟩, by omega, by omega, by omega, fun h => by omega⟩
    · have := E.tk_same e (v / 2 ^ ub ft) (v / 2 ^ ub ft + 1) (uf ft)
      simp only [E.bt]
      exact ⟨fun h => by omega, by omega, by omega, by omega, fun h => by omega⟩
section
variable {N : Nat}
theorem new_tell {b : List Int} : (Q.new b).tell (cnew b) = 1 := by
  have e32 : bl 2147483648 = 32 := by decide +kernel
  unfold Q.tell
  rw [cnew_eq, (Q.new_rng b).1, (Q.new_rng b).2, e32]
  rfl
end
end Go.Pl
/-
  Layer 20: a band is read by both books alike; one without bits is quiet noise.
  Conditions: none.
-/
namespace Go.Pl
open Go.Eng Go.Proofs
set_option maxRecDepth 100000
theorem vec_fill {n k : Nat} {v : Int} {e : Int} (n0 : 1 ≤ n) (n1 : n ≤ 16) (hk : k ≤ 64) (hkm : (k : Int) ≤ mostT n) (v0 : 0 ≤ v) (v1 : v < cnt n k) : FillOk (vec n k v) (sz (cl e)) := by
  obtain ⟨h1, h2, _⟩ := vec_spec n k v v0 v1 (un_most n0 n1 hkm)
  have h3 := (sz1_small (vec n k v) (by omega)).2
  have hc := cl_range e
  have hs := sz_range hc.1 hc.2
  exact ⟨by omega, by omega, hs.1, hs.2, (ok64_iff _).2 fun x hx => by have := h3 x hx; omega⟩
def hv (e : Int) : Int := (cz (sz (cl e)) + 1) / 2
theorem hn_nat {m : Nat} (h0 : 1 ≤ m) (h1 : m ≤ 16) : hn (m : Int) = m := by
  unfold hn
  rw [if_neg (by omega), if_neg (by omega), Int.toNat_natCast]
section
variable {N : Nat} {b : List Int}
theorem filled_some {y : List Int} {m e s : Int} (h : FillOk y (sz (cl e))) (hN : 1000 ≤ N) : Rc.filled.F N m e s y = some (s, fillV (sz (cl e)) y) := by
  unfold Rc.filled.F
  obtain ⟨k, hk⟩ : ∃ k, y.length = k + 1 := ⟨y.length - 1, by have := h.1; omega⟩
  rw [hk]
  show (obind (Rc.esize.F N e) fun r2 => (obind (Rc.sfill.F N r2 y) fun r3 => some (s, r3.snd))) = _
  rw [esize_F hN, obind_of, sfill_F (by omega) h, obind_of]
theorem filledN_F {m : Nat} {e s : Int} (m0 : 1 ≤ m) (m1 : m ≤ 16) (hN : 3000 ≤ N) : Rc.filledN.F N m e s = some ((hsh (hv e) m s).2, (hsh (hv e) m s).1) := by
  unfold Rc.filledN.F
  rw [esize_F (by omega), obind_of, shush_F (by omega), obind_of, hn_nat m0 m1]
  rfl
end
section
variable {N : Nat} {b : List Int}
theorem pcs_get {n : Int} {i : Nat} (h : i < pN n) : (pcs n).getD i 0 = pcv n i := by
  have := seqL_get (pcv n) (pN n) 0 i h
  rwa [Nat.zero_add] at this
theorem spl_get {n bb : Int} {i : Nat} (h : i < pN n) : (spl n bb).getD i 0 = spv n bb i := by
  have := seqL_get (spv n bb) (pN n) 0 i h
  rwa [Nat.zero_add] at this
theorem pcs_len (n : Int) : (pcs n).length = pN n := seqL_len _ _ _
theorem spl_len (n bb : Int) : (spl n bb).length = pN n := seqL_len _ _ _
end
end Go.Pl
/-
  Layer 20: a band without bits is quiet noise.
  Conditions: none.
-/
namespace Go.Pl
open Go.Eng Go.Proofs
set_option maxRecDepth 100000
theorem pc_start {n : Int} (i : Nat) : pcv n i + (i : Int) * n / pN n = ((i + 1 : Nat) : Int) * n / pN n := by
  unfold pcv
  rw [show ((i + 1 : Nat) : Int) = (i : Int) + 1 by omega]
  omega
theorem pc_end {n : Int} (h0 : 1 ≤ n) (h1 : n ≤ 1000) : (pN n : Int) * n / pN n = n := by
  obtain ⟨p0, _, _⟩ := pN_range h0 h1
  rw [Int.mul_ediv_cancel_left _ (by omega)]
section
variable {N : Nat} {b : List Int}
end
end Go.Pl
/-
  Layer 17: the vector that is near: by the program and its twin; the statements PvqNear, PvqExact.
  Conditions: none.
-/
namespace Go.Pl
open Go.Eng Go.Proofs
set_option maxRecDepth 100000
def c24 (v : Int) : Int := if v < -16777216 then -16777216 else if v > 16777216 then 16777216 else v
def mg (v : Int) : Int := ((c24 v).natAbs : Int)
theorem c24_range (v : Int) : -16777216 ≤ c24 v ∧ c24 v ≤ 16777216 := by
  unfold c24
  split
  · omega
  · split <;> omega
theorem mg_range (v : Int) : 0 ≤ mg v ∧ mg v ≤ 16777216 := by have := c24_range v; unfold mg; omega
def sumL : List Int → Int
  | [] => 0
  | x :: r => x + sumL r
def NN (l : List Int) : Prop := ∀ i, 0 ≤ l.getD i 0
theorem NN.tail {x : Int} {l : List Int} (h : NN (x :: l)) : 0 ≤ x ∧ NN l := ⟨by simpa using h 0, fun i => by simpa using h (i + 1)⟩
theorem NN.cons {x : Int} {l : List Int} (h0 : 0 ≤ x) (h : NN l) : NN (x :: l) := fun i => by
  cases i with
  | zero => simpa using h0
  | succ i => simpa using h i
theorem NN.nil : NN [] := fun i => by simp
theorem NN.le : ∀ {l : List Int}, NN l → 0 ≤ sumL l ∧ ∀ i, l.getD i 0 ≤ sumL l
  | [], _ => ⟨Int.le_refl _, fun i => by simp [sumL]⟩
  | x :: l, h => by
    obtain ⟨h0, h1⟩ := h.tail
    obtain ⟨h2, h3⟩ := NN.le h1
    refine ⟨by simp only [sumL]; omega, fun i => ?_⟩
    cases i with
    | zero => simp only [sumL, List.getD_cons_zero]; omega
    | succ i => have := h3 i; simp only [sumL, List.getD_cons_succ]; omega
theorem sum_inc : ∀ (l : List Int) (i : Nat) , i < l.length → sumL (l.set i (l.getD i 0 + 1)) = sumL l + 1
  | [], i, h => by simp at h
  | x :: l, 0, _ => by simp only [List.set_cons_zero, List.getD_cons_zero, sumL]; omega
  | x :: l, i + 1, h => by
    have := sum_inc l i (by simpa using h)
    simp only [List.set_cons_succ, List.getD_cons_succ, sumL]; omega
def scN (Z Y : List Int) (k S : Int) (i : Nat) : Int := Z.getD i 0 * k - S * Y.getD i 0
def bst (Z Y : List Int) (k S : Int) : Nat → Nat → Nat → Nat
  | 0, b, _ => b
  | d + 1, b, i => bst Z Y k S d (if scN Z Y k S i > scN Z Y k S b then i else b) (i + 1)
theorem bst_lt (Z Y : List Int) (k S : Int) : ∀ (d b i : Nat), b < i + d → bst Z Y k S d b i < i + d
  | 0, b, i, h => h
  | d + 1, b, i, h => by
    simp only [bst]
    have := bst_lt Z Y k S d (if scN Z Y k S i > scN Z Y k S b then i else b) (i + 1) (by split <;> omega)
    omega
def topN (Z Y : List Int) (k S : Int) (n : Nat) : Nat := bst Z Y k S (n - 1) 0 1
def growN (Z : List Int) (k S : Int) (n : Nat) : Nat → List Int → List Int
  | 0, Y => Y
  | l + 1, Y => growN Z k S n l (Y.set (topN Z Y k S n) (Y.getD (topN Z Y k S n) 0 + 1))
theorem grow_facts (Z : List Int) (k S : Int) {n : Nat} (hn : 1 ≤ n) : ∀ (l : Nat) (Y : List Int), Y.length = n → NN Y → (growN Z k S n l Y).length = n ∧ NN (growN Z k S n l Y) ∧ sumL (growN Z k S n l Y) = sumL Y + l
  | 0, Y, h, hY => ⟨h, hY, by simp [growN]⟩
  | l + 1, Y, h, hY => by
    have ht : topN Z Y k S n < n := by have := bst_lt Z Y k S (n - 1) 0 1 (by omega); unfold topN; omega
    obtain ⟨g1, g2, g3⟩ := grow_facts Z k S hn l (Y.set (topN Z Y k S n) (Y.getD (topN Z Y k S n) 0 + 1)) (by rw [List.length_set]; exact h) (fun i => by
      rw [getD_set]
      have := hY (topN Z Y k S n)
      have := hY i
      split <;> omega)
    rw [sum_inc _ _ (by omega)] at g3
    exact ⟨g1, g2, by simp only [growN]; omega⟩
def sg (x y : Int) : Int := if x < 0 then -y else y
def nearL (x : List Int) (k : Int) : List Int :=
  if sumL (x.map mg) = 0 then (List.replicate x.length 0).set 0 k
  else List.zipWith sg x (growN (x.map mg) k (sumL (x.map mg)) x.length (k - sumL ((x.map mg).map fun z => k * z / sumL (x.map mg))).toNat ((x.map mg).map fun z => k * z / sumL (x.map mg)))
theorem floors {k S : Int} (hk : 0 ≤ k) (hS : 0 < S) : ∀ Z : List Int, NN Z → NN (Z.map fun z => k * z / S) ∧ S * sumL (Z.map fun z => k * z / S) ≤ k * sumL Z
  | [], _ => ⟨NN.nil, by simp [sumL]⟩
  | z :: Z, h => by
    obtain ⟨h0, h1⟩ := h.tail
    obtain ⟨i1, i2⟩ := floors hk hS Z h1
    have a0 : 0 ≤ k * z := Int.mul_nonneg hk h0
    have a1 := Int.ediv_nonneg a0 (show 0 ≤ S by omega)
    have a2 := Int.mul_ediv_self_le (x := k * z) (k := S) (by omega)
    refine ⟨NN.cons a1 i1, ?_⟩
    simp only [List.map_cons, sumL, Int.mul_add]
    omega
theorem nn_map_mg : ∀ x : List Int, NN (x.map mg)
  | [] => NN.nil
  | v :: x => NN.cons (mg_range v).1 (nn_map_mg x)
theorem get_map_mg (x : List Int) (i : Nat) : 0 ≤ (x.map mg).getD i 0 ∧ (x.map mg).getD i 0 ≤ 16777216 := by
  rw [List.getD_eq_getElem?_getD, List.getElem?_map]
  cases x[i]? with
  | none => simp
  | some v => exact mg_range v
theorem sum_map_mg : ∀ x : List Int, 0 ≤ sumL (x.map mg) ∧ sumL (x.map mg) ≤ 16777216 * x.length
  | [] => by simp [sumL]
  | v :: x => by have := sum_map_mg x; have := mg_range v; simp only [List.map_cons, sumL, List.length_cons]; omega
section
variable {N : Nat}
theorem pn_sizes {x : List Int} (hl : x.length ≤ 16) : ∀ (nn : Nat) (r pre A : List Int) (s : Int), x = pre ++ r → A.length = pre.length → r.length < nn → (True → 0 ≤ s ∧ s ≤ 16777216 * (pre.length : Int)) →
    Rc.pnear.loop6 N nn x.length x s pre.length (A ++ List.replicate r.length 0) = some (s + sumL (r.map mg), A ++ r.map mg)
  | 0, r, pre, A, s, _, _, h, _ => by omega
  | nn + 1, r, pre, A, s, hx, hA, h, hs => by
    obtain ⟨s0, s1⟩ := hs trivial
    unfold Rc.pnear.loop6
    simp only [br_dec, chkL_same, chkI_same]
    have hlen : x.length = pre.length + r.length := by rw [hx, List.length_append]
    cases r with
    | nil => rw [if_neg (by simp at hlen; omega)]; simp [sumL]
    | cons v r =>
      simp only [List.length_cons] at hlen h
      have hm := mg_range v
      have hc := c24_range v
      have hg : x.getD pre.length 0 = v := by rw [hx, get_at]
      have hcl : Rc.clamp.F N v (-16777216) 16777216 = some (c24 v) := by
        unfold Rc.clamp.F c24
        simp only [br_dec]
        by_cases c1 : v < -16777216
        · rw [if_neg (by omega), if_pos c1, if_pos c1]
        by_cases c2 : v > 16777216
        · rw [if_neg (by omega), if_neg c1, if_pos c2, if_neg c1, if_pos c2]
        · rw [if_neg (by omega), if_neg c1, if_neg c2, if_neg c1, if_neg c2]
      have hv : (if 0 - c24 v > c24 v then 0 - c24 v else c24 v) = mg v := by unfold mg; split <;> omega
      have ll : (A ++ (0 : Int) :: List.replicate r.length 0).length = x.length := by simp; omega
      have st := set_at A 0 (mg v) (List.replicate r.length 0)
      rw [hA] at st
      have gt := get_at A (mg v) (List.replicate r.length 0)
      rw [hA] at gt
      rw [if_pos (by omega), chk_pos (by omega), Int.toNat_natCast, hg, hcl, obind_of, i64 (x := 0 - c24 v) (by omega) (by omega), show List.replicate (v :: r).length (0 : Int) = 0 :: List.replicate r.length 0 from rfl, hv, chk_pos (by omega), st, chk_pos (by simp; omega), gt, i64 (x := s + mg v) (by omega) (by omega), i64 (x := (pre.length : Int) + 1) (by omega) (by omega)]
      have ih := pn_sizes hl nn r (pre ++ [v]) (A ++ [mg v]) (s + mg v) (by rw [hx]; simp) (by simp [hA]) (by omega) (fun _ => ⟨by omega, by simp; omega⟩)
      rw [show (((pre ++ [v]).length : Nat) : Int) = (pre.length : Int) + 1 by simp, List.append_assoc, List.append_assoc] at ih
      refine ih.trans ?_
      simp only [List.map_cons, sumL]
      rw [show s + mg v + sumL (r.map mg) = s + (mg v + sumL (r.map mg)) by omega]
      rfl
theorem pn_floors {Z : List Int} {k S : Int} (hl : Z.length ≤ 16) (hk : 0 ≤ k) (hk2 : k ≤ 64) (hS : 1 ≤ S) (hZ : ∀ i, 0 ≤ Z.getD i 0 ∧ Z.getD i 0 ≤ 16777216) : ∀ (nn : Nat) (r pre A : List Int) (s : Int), Z = pre ++ r → A.length = pre.length → r.length < nn → (True → s ≤ 64 ∧ -(1073741824 * (pre.length : Int)) ≤ s) →
    Rc.pnear.loop17 N nn k S Z.length Z s pre.length (A ++ List.replicate r.length 0) = some (s - sumL (r.map fun z => k * z / S), A ++ r.map fun z => k * z / S)
  | 0, r, pre, A, s, _, _, h, _ => by omega
  | nn + 1, r, pre, A, s, hx, hA, h, hs => by
    obtain ⟨s0, s1⟩ := hs trivial
    unfold Rc.pnear.loop17
    simp only [br_dec, chkL_same, chkI_same]
    have hlen : Z.length = pre.length + r.length := by rw [hx, List.length_append]
    cases r with
    | nil => rw [if_neg (by simp at hlen; omega)]; simp [sumL]
    | cons v r =>
      simp only [List.length_cons] at hlen h
      have hg : Z.getD pre.length 0 = v := by rw [hx, get_at]
      have hv := hZ pre.length
      rw [hg] at hv
      have p0 : 0 ≤ k * v := Int.mul_nonneg hk hv.1
      have p1 : k * v ≤ 64 * 16777216 := Int.mul_le_mul hk2 hv.2 hv.1 (by omega)
      have d0 := Int.ediv_nonneg p0 (show 0 ≤ S by omega)
      have d1 := Int.ediv_le_self S p0
      have st := set_at A 0 (k * v / S) (List.replicate r.length 0)
      rw [hA] at st
      have gt := get_at A (k * v / S) (List.replicate r.length 0)
      rw [hA] at gt
      have ll : (A ++ (0 : Int) :: List.replicate r.length 0).length = Z.length := by simp; omega
      rw [if_pos (by omega), chk_pos (by omega), chk_pos (by omega), show List.replicate (v :: r).length (0 : Int) = 0 :: List.replicate r.length 0 from rfl, chk_pos (by omega), Int.toNat_natCast, hg, i64 (x := k * v) (by omega) (by omega), tdiv_ediv p0, i64 (x := k * v / S) (by omega) (by omega), st, chk_pos (by simp; omega), gt, i64 (x := s - k * v / S) (by omega) (by omega), i64 (x := (pre.length : Int) + 1) (by omega) (by omega)]
      have ih := pn_floors hl hk hk2 hS hZ nn r (pre ++ [v]) (A ++ [k * v / S]) (s - k * v / S) (by rw [hx]; simp) (by simp [hA]) (by omega) (fun _ => ⟨by omega, by simp; omega⟩)
      rw [show (((pre ++ [v]).length : Nat) : Int) = (pre.length : Int) + 1 by simp, List.append_assoc, List.append_assoc] at ih
      refine ih.trans ?_
      simp only [List.map_cons, sumL]
      rw [show s - k * v / S - sumL (r.map fun z => k * z / S) = s - (k * v / S + sumL (r.map fun z => k * z / S)) by omega]
      rfl
theorem sc_range {Z Y : List Int} {k S : Int} (hZ : ∀ i, 0 ≤ Z.getD i 0 ∧ Z.getD i 0 ≤ 16777216) (hY : ∀ i, 0 ≤ Y.getD i 0 ∧ Y.getD i 0 ≤ 64) (hk : 0 ≤ k) (hk2 : k ≤ 64) (hS : 1 ≤ S) (hS2 : S ≤ 268435456) (i : Nat) :
    0 ≤ Z.getD i 0 * k ∧ Z.getD i 0 * k ≤ 1073741824 ∧ 0 ≤ S * Y.getD i 0 ∧ S * Y.getD i 0 ≤ 17179869184 := by
  have a := hZ i
  have b := hY i
  have h1 : Z.getD i 0 * k ≤ 16777216 * 64 := Int.mul_le_mul a.2 hk2 hk (by omega)
  have h2 : S * Y.getD i 0 ≤ 268435456 * 64 := Int.mul_le_mul hS2 b.2 b.1 (by omega)
  exact ⟨Int.mul_nonneg a.1 hk, by omega, Int.mul_nonneg (by omega) b.1, by omega⟩
theorem pn_best {Z Y : List Int} {k S : Int} (hl : Z.length ≤ 16) (hYl : Y.length = Z.length) (hZ : ∀ i, 0 ≤ Z.getD i 0 ∧ Z.getD i 0 ≤ 16777216) (hY : ∀ i, 0 ≤ Y.getD i 0 ∧ Y.getD i 0 ≤ 64) (hk : 0 ≤ k) (hk2 : k ≤ 64) (hS : 1 ≤ S) (hS2 : S ≤ 268435456) : ∀ (nn d b i : Nat), i + d = Z.length → b < Z.length → d < nn →
    Rc.pnear.loop26 N nn k S Z.length Z Y b i = some ((bst Z Y k S d b i : Nat) : Int)
  | 0, d, b, i, _, _, h => by omega
  | nn + 1, d, b, i, hd, hb, h => by
    unfold Rc.pnear.loop26
    simp only [br_dec, chkL_same, chkI_same]
    rcases d with _ | d
    · rw [if_neg (by omega)]; rfl
    · obtain ⟨a1, a2, a3, a4⟩ := sc_range hZ hY hk hk2 hS hS2 i
      obtain ⟨b1, b2, b3, b4⟩ := sc_range hZ hY hk hk2 hS hS2 b
      rw [if_pos (by omega), chk_pos (by omega), chk_pos (by omega), chk_pos (by omega), chk_pos (by omega), Int.toNat_natCast, Int.toNat_natCast]
      rw [i64 (x := Z.getD i 0 * k) (by omega) (by omega), i64 (x := S * Y.getD i 0) (by omega) (by omega), i64 (x := Z.getD i 0 * k - S * Y.getD i 0) (by omega) (by omega), i64 (x := Z.getD b 0 * k) (by omega) (by omega), i64 (x := S * Y.getD b 0) (by omega) (by omega), i64 (x := Z.getD b 0 * k - S * Y.getD b 0) (by omega) (by omega), i64 (x := (i : Int) + 1) (by omega) (by omega)]
      simp only [bst]
      by_cases c : Z.getD i 0 * k - S * Y.getD i 0 > Z.getD b 0 * k - S * Y.getD b 0
      · rw [if_pos c, if_pos (show scN Z Y k S i > scN Z Y k S b from c)]
        exact pn_best hl hYl hZ hY hk hk2 hS hS2 nn d i (i + 1) (by omega) (by omega) (by omega)
      · rw [if_neg c, if_neg (show ¬ scN Z Y k S i > scN Z Y k S b from c)]
        exact pn_best hl hYl hZ hY hk hk2 hS hS2 nn d b (i + 1) (by omega) hb (by omega)
theorem bst_from0 (Z Y : List Int) (k S : Int) {n : Nat} (h : 1 ≤ n) : bst Z Y k S n 0 0 = topN Z Y k S n := by
  obtain ⟨m, rfl⟩ : ∃ m, n = m + 1 := ⟨n - 1, by omega⟩
  unfold topN
  simp only [bst, Nat.add_sub_cancel]
  rw [if_neg (by omega)]
theorem pn_grow {Z : List Int} {k S : Int} (hl : Z.length ≤ 16) (hl1 : 1 ≤ Z.length) (hZ : ∀ i, 0 ≤ Z.getD i 0 ∧ Z.getD i 0 ≤ 16777216) (hk : 0 ≤ k) (hk2 : k ≤ 64) (hS : 1 ≤ S) (hS2 : S ≤ 268435456) (hN : 100 ≤ N) : ∀ (nn l : Nat) (Y : List Int), Y.length = Z.length → NN Y → sumL Y + l = k → l < nn →
    Rc.pnear.loop22 N nn k S Z l Y = some (0, growN Z k S Z.length l Y)
  | 0, l, Y, _, _, _, h => by omega
  | nn + 1, l, Y, hYl, hY, hs, h => by
    unfold Rc.pnear.loop22
    simp only [br_dec, chkL_same, chkI_same]
    rcases l with _ | l
    · rw [if_neg (by omega)]; rfl
    · obtain ⟨y0, y1⟩ := hY.le
      have hYr : ∀ i, 0 ≤ Y.getD i 0 ∧ Y.getD i 0 ≤ 64 := fun i => ⟨hY i, by have := y1 i; omega⟩
      have hb := pn_best (N := N) hl hYl hZ hYr hk hk2 hS hS2 N Z.length 0 0 (by omega) (by omega) (by omega)
      rw [bst_from0 _ _ _ _ hl1, show ((0 : Nat) : Int) = 0 from rfl] at hb
      have ht : topN Z Y k S Z.length < Z.length := by have := bst_lt Z Y k S (Z.length - 1) 0 1 (by omega); unfold topN; omega
      have hyt := hYr (topN Z Y k S Z.length)
      have hc : (0 : Int) ≤ ((topN Z Y k S Z.length : Nat) : Int) ∧ ((topN Z Y k S Z.length : Nat) : Int) < (Y.length : Int) := by omega
      rw [if_pos (by omega), hb, obind_of, chk_pos hc, chk_pos hc, Int.toNat_natCast, i64 (x := Y.getD (topN Z Y k S Z.length) 0 + 1) (by omega) (by omega), i64 (x := ((l + 1 : Nat) : Int) - 1) (by omega) (by omega), show ((l + 1 : Nat) : Int) - 1 = (l : Int) by omega]
      have g := sum_inc Y (topN Z Y k S Z.length) (by omega)
      exact pn_grow hl hl1 hZ hk hk2 hS hS2 hN nn l _ (by rw [List.length_set]; exact hYl) (fun i => by
        rw [getD_set]
        have := hY i
        split <;> omega) (by omega) (by omega)
theorem pn_signs {x : List Int} (hl : x.length ≤ 16) : ∀ (nn : Nat) (r pre A B : List Int), x = pre ++ r → A.length = pre.length → B.length = r.length → (∀ i, 0 ≤ B.getD i 0 ∧ B.getD i 0 ≤ 64) → r.length < nn →
    Rc.pnear.loop33 N nn x.length x pre.length (A ++ B) = some (A ++ List.zipWith sg r B)
  | 0, r, pre, A, B, _, _, _, _, h => by omega
  | nn + 1, r, pre, A, B, hx, hA, hB, hBr, h => by
    unfold Rc.pnear.loop33
    simp only [br_dec, chkL_same, chkI_same]
    have hlen : x.length = pre.length + r.length := by rw [hx, List.length_append]
    cases r with
    | nil =>
      rw [if_neg (by simp at hlen; omega)]
      have : B = [] := List.length_eq_zero_iff.1 (by simpa using hB)
      rw [this]; simp
    | cons v r =>
      cases B with
      | nil => simp at hB
      | cons y B =>
        simp only [List.length_cons] at hlen h hB
        have hg : x.getD pre.length 0 = v := by rw [hx, get_at]
        have hy := hBr 0
        simp only [List.getD_cons_zero] at hy
        have hBr' : ∀ i, 0 ≤ B.getD i 0 ∧ B.getD i 0 ≤ 64 := fun i => by simpa using hBr (i + 1)
        have ll : (A ++ y :: B).length = x.length := by simp; omega
        have gt := get_at A y B
        rw [hA] at gt
        have st := set_at A y (-y) B
        rw [hA] at st
        rw [if_pos (by omega), chk_pos (by omega), Int.toNat_natCast, hg, i64 (x := (pre.length : Int) + 1) (by omega) (by omega)]
        have next : ∀ u : Int, Rc.pnear.loop33 N nn x.length x ((pre.length : Int) + 1) (A ++ u :: B) = some (A ++ u :: List.zipWith sg r B) := fun u => by
          have ih := pn_signs hl nn r (pre ++ [v]) (A ++ [u]) B (by rw [hx]; simp) (by simp [hA]) (by omega) hBr' (by omega)
          rw [show (((pre ++ [v]).length : Nat) : Int) = (pre.length : Int) + 1 by simp, List.append_assoc, List.append_assoc] at ih
          exact ih
        by_cases c : v < 0
        · rw [if_pos c, chk_pos (by omega), chk_pos (by omega), gt, i64 (x := 0 - y) (by omega) (by omega), show 0 - y = -y by omega, st, next]
          simp [sg, c]
        · rw [if_neg c, next]
          simp [sg, c]
theorem near_facts {x : List Int} (h1 : 1 ≤ x.length) {k : Int} (hk : 0 ≤ k) (hS : sumL (x.map mg) ≠ 0) :
    0 ≤ k - sumL ((x.map mg).map fun z => k * z / sumL (x.map mg)) ∧ NN ((x.map mg).map fun z => k * z / sumL (x.map mg)) := by
  obtain ⟨s0, _⟩ := sum_map_mg x
  obtain ⟨f1, f2⟩ := floors hk (show 0 < sumL (x.map mg) by omega) (x.map mg) (nn_map_mg x)
  rw [Int.mul_comm k] at f2
  have := Int.le_of_mul_le_mul_left f2 (show 0 < sumL (x.map mg) by omega)
  exact ⟨by omega, f1⟩
theorem pnear_F (x : List Int) (k : Int) (hN : 3000 ≤ N) : Rc.pnear.F N k x = some (if 1 ≤ x.length ∧ x.length ≤ 16 ∧ 0 ≤ k ∧ k ≤ mostT x.length then (0, nearL x k) else (1, [])) := by
  unfold Rc.pnear.F
  rw [pmay_F, obind_of]
  simp only [br_not_dec, br_dec, br_beq]
  by_cases c1 : ¬ (1 ≤ (x.length : Int) ∧ (x.length : Int) ≤ 16)
  · rw [if_neg c1, if_neg (fun h => by omega)]
  have c1 : 1 ≤ (x.length : Int) ∧ (x.length : Int) ≤ 16 := by omega
  by_cases c2 : k < 0
  · rw [if_pos c1, if_pos c2, if_neg (fun h => by omega)]
  rw [if_pos c1, if_neg c2, pmost_F _ hN, obind_of]
  by_cases c3 : k > mostT x.length
  · rw [if_pos c3, if_neg (fun h => by omega)]
  have hm := mostT_range x.length
  have h6 := pn_sizes (N := N) (x := x) (by omega) N x [] [] 0 rfl rfl (by omega) (fun _ => ⟨by omega, by simp⟩)
  rw [show (([] : List Int).length : Int) = 0 from rfl, Int.zero_add, List.nil_append, List.nil_append] at h6
  obtain ⟨s0, s1⟩ := sum_map_mg x
  rw [if_neg c3, if_pos ⟨by omega, by omega, by omega, by omega⟩, chk_pos (by omega), chk_pos (by omega), Int.toNat_natCast, h6, obind_of]
  simp only
  by_cases c4 : sumL (x.map mg) = 0
  · rw [if_pos c4, chk_pos (by rw [List.length_replicate]; omega)]
    unfold nearL
    rw [if_pos c4]
    rfl
  obtain ⟨n0, n1⟩ := near_facts (x := x) (by omega) (k := k) (by omega) c4
  have ml : (x.map mg).length = x.length := by simp
  have h17 := pn_floors (N := N) (Z := x.map mg) (k := k) (S := sumL (x.map mg)) (by omega) (by omega) (by omega) (by omega) (get_map_mg x) N (x.map mg) [] [] k rfl rfl (by omega) (fun _ => ⟨by omega, by simp; omega⟩)
  rw [show (([] : List Int).length : Int) = 0 from rfl, List.nil_append, List.nil_append, ml] at h17
  rw [if_neg c4, ml, h17, obind_of]
  simp only
  have h22 := pn_grow (N := N) (Z := x.map mg) (k := k) (S := sumL (x.map mg)) (by omega) (by omega) (get_map_mg x) (by omega) (by omega) (by omega) (by omega) (by omega) N (k - sumL ((x.map mg).map fun z => k * z / sumL (x.map mg))).toNat _ (by simp) n1 (by omega) (by have := n1.le.1; omega)
  rw [show (((k - sumL ((x.map mg).map fun z => k * z / sumL (x.map mg))).toNat : Nat) : Int) = k - sumL ((x.map mg).map fun z => k * z / sumL (x.map mg)) by omega, ml] at h22
  rw [h22, obind_of]
  simp only
  obtain ⟨g1, g2, g3⟩ := grow_facts (x.map mg) k (sumL (x.map mg)) (n := x.length) (by omega) (k - sumL ((x.map mg).map fun z => k * z / sumL (x.map mg))).toNat ((x.map mg).map fun z => k * z / sumL (x.map mg)) (by simp) n1
  have h33 := pn_signs (N := N) (x := x) (by omega) N x [] [] _ rfl rfl g1 (fun i => ⟨g2 i, by have := g2.le.2 i; omega⟩) (by omega)
  rw [show (([] : List Int).length : Int) = 0 from rfl, List.nil_append, List.nil_append] at h33
  rw [h33, obind_of]
  unfold nearL
  rw [if_neg c4]
end
end Go.Pl
