/-
 Plain words for plain proofs: what the evaluator's marks come to, wraps, bits. Nothing is claimed of the program here.
 Conditions: none.
-/
import Derived.Test.YtghbobmkkbdhpaaGreatEngLoopToEngRow3
import Derived.Test.YtghbobmkkbdhpaaGreatRcFns
import Derived.Test.YtghbobmkkbdhpaaGreatRencFns
set_option linter.unusedVariables false
set_option linter.unusedSimpArgs false
namespace Go.Pl
open Go.Eng
variable {X Y : Type}
theorem br_true (t e : Option Y) : br true t e = t := rfl
theorem br_false (t e : Option Y) : br false t e = e := rfl
theorem br_dec {p : Prop} [Decidable p] (t e : Option Y) : br (decide p) t e = if p then t else e := by
 by_cases h : p <;> simp [br,h]
theorem br_not (b : Bool) (t e : Option Y) : br (!b) t e = if b = true then e else t := by cases b <;> rfl
theorem br_bne (a b : Int) (t e : Option Y) : br (a != b) t e = if a = b then e else t := by
 by_cases h : a = b
 ·subst h; simp [br]
 ·have : (a != b) = true := by simpa using h
  rw [this,if_neg h]; rfl
theorem br_beq (a b : Int) (t e : Option Y) : br (a == b) t e = if a = b then t else e := by
 by_cases h : a = b
 ·subst h; simp [br]
 ·have : (a == b) = false := by simpa using h
  rw [this,if_neg h]; rfl
theorem chk_pos {c : Prop} [Decidable c] (h : c) (k : Option Y) : chk c k = k := by simp [chk,h]
theorem chkI_same (x : Int) (k : Option Y) : chkI x x k = k := by simp [chkI]
theorem chkB_same (x : Bool) (k : Option Y) : chkB x x k = k := by simp [chkB]
theorem chkL_same (x : List Int) (k : Option Y) : chkL x x k = k := by simp [chkL]
theorem obind_of (x : X) (k : X -> Option Y) : obind (some x) k = k x := rfl
theorem osum_inl {Z : Type} (x : X) (k : X -> Option Z) : osum (some (Sum.inl x)) k = k x := rfl
theorem osum_inr {Z : Type} (y : Z) (k : X -> Option Z) : osum (some (Sum.inr y)) k = some y := rfl
theorem omap_of (x : X) (f : X -> Y) : omap (some x) f = some (f x) := rfl
theorem u64 {x : Int} (h0 : 0 <= x) (h1 : x < 18446744073709551616) : IntKind.u64.wrap x = x := by
 simp only [IntKind.wrap,IntKind.signed,IntKind.bits,Bool.false_and,Bool.false_eq_true,if_false]
 omega
theorem u32 {x : Int} (h0 : 0 <= x) (h1 : x < 4294967296) : IntKind.u32.wrap x = x := by
 simp only [IntKind.wrap,IntKind.signed,IntKind.bits,Bool.false_and,Bool.false_eq_true,if_false]
 omega
theorem u8 {x : Int} (h0 : 0 <= x) (h1 : x < 256) : IntKind.u8.wrap x = x := by
 simp only [IntKind.wrap,IntKind.signed,IntKind.bits,Bool.false_and,Bool.false_eq_true,if_false]
 omega
theorem i64 {x : Int} (h0 : -9223372036854775808 <= x) (h1 : x < 9223372036854775808) : IntKind.i64.wrap x = x := by
 simp only [IntKind.wrap,IntKind.signed,IntKind.bits,Bool.true_and]
 split
 ·rename_i h
  have h := of_decide_eq_true h
  omega
 ·rename_i h
  have h : ¬ _ := fun hh => h (decide_eq_true hh)
  omega
theorem bits_u64 : IntKind.u64.bits = 64 := rfl
theorem bits_i64 : IntKind.i64.bits = 64 := rfl
theorem ofInt_toNat {w : Nat} {a : Int} (h0 : 0 <= a) (h1 : a < 2 ^ w) : (BitVec.ofInt w a).toNat = a.toNat := by
 rw [BitVec.toNat_ofInt]
 congr 1
 exact Int.emod_eq_of_lt h0 (by exact_mod_cast h1)
theorem and_nn {w : Nat} {a b : Int} (ha : 0 <= a) (ha' : a < 2 ^ w) (hb : 0 <= b) (hb' : b < 2 ^ w) : ((BitVec.ofInt w a &&& BitVec.ofInt w b).toNat : Int) = ((a.toNat &&& b.toNat : Nat) : Int) := by
 rw [BitVec.toNat_and,ofInt_toNat ha ha',ofInt_toNat hb hb']
theorem or_nn {w : Nat} {a b : Int} (ha : 0 <= a) (ha' : a < 2 ^ w) (hb : 0 <= b) (hb' : b < 2 ^ w) : ((BitVec.ofInt w a ||| BitVec.ofInt w b).toNat : Int) = ((a.toNat ||| b.toNat : Nat) : Int) := by
 rw [BitVec.toNat_or,ofInt_toNat ha ha',ofInt_toNat hb hb']
theorem and_mask {w k : Nat} {a m : Int} (ha : 0 <= a) (ha' : a < 2 ^ w) (hm : m = 2 ^ k - 1) (hk : k <= w) : ((BitVec.ofInt w a &&& BitVec.ofInt w m).toNat : Int) = a % 2 ^ k := by
 have h1 : (0 : Int) < 2 ^ k := by exact_mod_cast Nat.two_pow_pos k
 have h2 : (2 : Int) ^ k <= 2 ^ w := by exact_mod_cast Nat.pow_le_pow_right (by omega) hk
 rw [and_nn ha ha' (by omega) (by omega)]
 have : m.toNat = 2 ^ k - 1 := by
  rw [hm]
  have : ((2 : Int) ^ k - 1) = ((2 ^ k - 1 : Nat) : Int) := by
   rw [Int.ofNat_sub Nat.one_le_two_pow]
   push_cast
   rfl
  rw [this]; rfl
 rw [this,Nat.and_two_pow_sub_one_eq_mod]
 obtain ⟨n,rfl⟩ := Int.eq_ofNat_of_zero_le ha
 simp
theorem or_add {w k : Nat} {a b : Int} (ha : 0 <= a) (ha' : a * 2 ^ k < 2 ^ w) (hb : 0 <= b) (hb' : b < 2 ^ k) (hk : k <= w) : ((BitVec.ofInt w (a * 2 ^ k) ||| BitVec.ofInt w b).toNat : Int) = a * 2 ^ k + b := by
 have h1 : (0 : Int) < 2 ^ k := by exact_mod_cast Nat.two_pow_pos k
 have h2 : (2 : Int) ^ k <= 2 ^ w := by exact_mod_cast Nat.pow_le_pow_right (by omega) hk
 rw [or_nn (Int.mul_nonneg ha (by omega)) ha' hb (by omega)]
 obtain ⟨n,rfl⟩ := Int.eq_ofNat_of_zero_le ha
 obtain ⟨m,rfl⟩ := Int.eq_ofNat_of_zero_le hb
 have e : (((n : Int) * 2 ^ k)).toNat = 2 ^ k * n := by
  have : ((n : Int) * 2 ^ k) = ((2 ^ k * n : Nat) : Int) := by push_cast; rw [Int.mul_comm]
  rw [this]; rfl
 rw [e]
 have hm : m < 2 ^ k := by exact_mod_cast hb'
 have := Nat.two_pow_add_eq_or_of_lt hm n
 rw [Int.toNat_natCast,<- this]
 push_cast
 rw [Int.mul_comm]
theorem or_comm' {w : Nat} (a b : Int) : ((BitVec.ofInt w a ||| BitVec.ofInt w b).toNat : Int) = ((BitVec.ofInt w b ||| BitVec.ofInt w a).toNat : Int) := by
 rw [BitVec.or_comm]
theorem fdiv_ediv {a b : Int} (h : 0 <= b) : a.fdiv b = a / b := Int.fdiv_eq_ediv_of_nonneg a h
theorem tdiv_ediv {a b : Int} (h : 0 <= a) : a.tdiv b = a / b := Int.tdiv_eq_ediv_of_nonneg h
theorem tmod_emod {a b : Int} (h : 0 <= a) : a.tmod b = a % b := Int.tmod_eq_emod_of_nonneg h
def Bytes (b : List Int) : Prop := ∀ x ∈ b,0 <= x /\ x < 256
theorem bytes_of {b : List Int} (h : WfL .u8 b) : Bytes b := fun x hx => by
 have := (h x hx).bounds
 have e1 : IntKind.u8.min = 0 := rfl
 have e2 : IntKind.u8.max = 255 := rfl
 omega
theorem Bytes.get {b : List Int} (h : Bytes b) (i : Nat) : 0 <= b.getD i 0 /\ b.getD i 0 < 256 := by
 rw [List.getD_eq_getElem?_getD]
 cases hb : b[i]? with
 | none => simp
 | some x => simpa using h x (List.mem_of_getElem? hb)
theorem getD_out {b : List Int} {i : Nat} (h : b.length <= i) : b.getD i 0 = 0 := by simp [List.getD_eq_getElem?_getD,List.getElem?_eq_none h]
end Go.Pl
/-
 Chapter 3 in plain words: the range decoder's register, and what rc's and ref3's functions come to.
 Conditions: none.
-/
namespace Go.Pl
open Go.Eng Go.Proofs
structure Q where
 rng : Int
 val : Int
 last : Int
 m : Nat
def nb (b : List Int) (m : Nat) : Int := b.getD m 0
theorem nb_range {b : List Int} (h : Bytes b) (m : Nat) : 0 <= nb b m /\ nb b m < 256 := h.get m
def Q.step (b : List Int) (q : Q) : Q := ⟨q.rng * 256,q.val * 256 + 255 - ((q.last * 256 + nb b q.m) / 2) % 256,nb b q.m,q.m + 1⟩
def Q.norm (b : List Int) : Nat -> Q -> Q
 | 0,q => q
 | n + 1,q => if q.rng <= 8388608 then Q.norm b n (q.step b) else q
structure Q.Ok (q : Q) : Prop where
 r0 : 8388608 < q.rng
 r1 : q.rng <= 2147483648
 v0 : 0 <= q.val
 v1 : q.val < q.rng
 l0 : 0 <= q.last
 l1 : q.last < 256
structure Q.Pre (q : Q) : Prop where
 r0 : 1 <= q.rng
 r1 : q.rng <= 2147483648
 v0 : 0 <= q.val
 v1 : q.val < q.rng
 l0 : 0 <= q.last
 l1 : q.last < 256
theorem Q.Pre.step {b : List Int} {q : Q} (h : q.Pre) (hb : Bytes b) (hr : q.rng <= 8388608) : (q.step b).Pre := by
 obtain ⟨h1,h2,h3,h4,h5,h6⟩ := h
 obtain ⟨h7,h8⟩ := nb_range hb q.m
 exact ⟨by simp only [Q.step]; omega,by simp only [Q.step]; omega,by simp only [Q.step]; omega,by simp only [Q.step]; omega,h7,h8⟩
theorem Q.norm_ok {b : List Int} (hb : Bytes b) : ∀ (n : Nat) (q : Q),q.Pre -> 8388608 < q.rng * 256 ^ n -> (Q.norm b n q).Ok
 | 0,q,h,hn => ⟨by simpa [Q.norm] using hn,h.r1,h.v0,h.v1,h.l0,h.l1⟩
 | n + 1,q,h,hn => by
  simp only [Q.norm]
  split
  ·rename_i hr
   refine Q.norm_ok hb n _ (h.step hb hr) ?_
   simp only [Q.step]
   rw [Int.pow_succ] at hn
   rw [Int.mul_assoc,Int.mul_comm 256]
   exact hn
  ·rename_i hr
   exact ⟨by omega,h.r1,h.v0,h.v1,h.l0,h.l1⟩
def Q.on (b : List Int) (q : Q) : Q := Q.norm b 4 q
theorem Q.on_ok {b : List Int} (hb : Bytes b) {q : Q} (h : q.Pre) : (q.on b).Ok := Q.norm_ok hb 4 q h (by have := h.r0; omega)
theorem Q.norm_m (b : List Int) : ∀ (n : Nat) (q : Q),q.m <= (Q.norm b n q).m /\ (Q.norm b n q).m <= q.m + n
 | 0,q => ⟨Nat.le_refl _,Nat.le_refl _⟩
 | n + 1,q => by
  simp only [Q.norm]
  split
  ·have := Q.norm_m b n (q.step b)
   simp only [Q.step] at this ⊢
   omega
  ·omega
theorem Q.on_m (b : List Int) (q : Q) : q.m <= (q.on b).m /\ (q.on b).m <= q.m + 4 := Q.norm_m b 4 q
theorem Q.norm_stop (b : List Int) {q : Q} (h : 8388608 < q.rng) : ∀ n,Q.norm b n q = q
 | 0 => rfl
 | n + 1 => by simp only [Q.norm]; rw [if_neg (by omega)]
theorem p8 : (2 : Int) ^ min (Int.toNat (8 : Int)) IntKind.u64.bits = 256 := rfl
theorem p1 : (2 : Int) ^ min (Int.toNat (1 : Int)) IntKind.u64.bits = 2 := rfl
theorem or8 {a c : Int} (ha : 0 <= a) (ha' : a < 72057594037927936) (hc : 0 <= c) (hc' : c < 256) : ((BitVec.ofInt 64 (a * 256) ||| BitVec.ofInt 64 c).toNat : Int) = a * 256 + c :=
 or_add (w:=64) (k:=8) ha (by show a * 256 < 18446744073709551616; omega) hc hc' (by omega)
theorem and255 {a : Int} (ha : 0 <= a) (ha' : a < 18446744073709551616) : ((BitVec.ofInt 64 a &&& BitVec.ofInt 64 255).toNat : Int) = a % 256 :=
 and_mask (w:=64) (k:=8) ha ha' rfl (by omega)
theorem and31 {a : Int} (ha : 0 <= a) (ha' : a < 18446744073709551616) : ((BitVec.ofInt 64 a &&& BitVec.ofInt 64 2147483647).toNat : Int) = a % 2147483648 :=
 and_mask (w:=64) (k:=31) ha ha' rfl (by omega)
def fr (b : List Int) (m : Nat) : Int := ((min m b.length : Nat) : Int)
theorem next_F {N : Nat} {rng val last back window waiting count : Int} {bad : Bool} {b : List Int} (hb : Bytes b) (hl : b.length < 140737488351233) (m : Nat) :
  Rc.next.F N rng val last (fr b m) back window waiting count bad b = some (nb b m,fr b (m + 1)) := by
 unfold Rc.next.F fr
 simp only [br_dec,chkI_same,chkB_same,chkL_same]
 by_cases h : m < b.length
 ·have e1 : min m b.length = m := by omega
  have e2 : min (m + 1) b.length = m + 1 := by omega
  rw [e1,e2,if_neg (by omega),i64 (x:=(m : Int) + 1) (by omega) (by omega),i64 (by omega) (by omega),chk_pos (by omega)]
  have e3 : ((m : Int) + 1 - 1).toNat = m := by omega
  obtain ⟨h1,h2⟩ := nb_range hb m
  unfold nb at h1 h2 ⊢
  rw [e3,u64 h1 (by omega)]
  rfl
 ·have e1 : min m b.length = b.length := by omega
  have e2 : min (m + 1) b.length = b.length := by omega
  rw [e1,e2,if_pos (by omega)]
  unfold nb
  rw [getD_out (by omega)]
theorem step_val {val last x : Int} (h0 : 0 <= val) (h1 : val < 8388608) (l0 : 0 <= last) (l1 : last < 256) (x0 : 0 <= x) (x1 : x < 256) :
  IntKind.u64.wrap ↑(BitVec.ofInt IntKind.u64.bits (IntKind.u64.wrap (IntKind.u64.wrap (IntKind.u64.wrap (val * 256) + 255) - IntKind.u64.wrap ↑(BitVec.ofInt IntKind.u64.bits ((IntKind.u64.wrap ↑(BitVec.ofInt IntKind.u64.bits (IntKind.u64.wrap (last * 256)) ||| BitVec.ofInt IntKind.u64.bits x).toNat).fdiv 2) &&& BitVec.ofInt IntKind.u64.bits 255).toNat)) &&& BitVec.ofInt IntKind.u64.bits 2147483647).toNat =
   val * 256 + 255 - ((last * 256 + x) / 2) % 256 := by
 rw [bits_u64,u64 (x:=last * 256) (by omega) (by omega),or8 l0 (by omega) x0 x1,u64 (x:=last * 256 + x) (by omega) (by omega),fdiv_ediv (by omega),and255 (by omega) (by omega),
  u64 (x:=(last * 256 + x) / 2 % 256) (by omega) (by omega),u64 (x:=val * 256) (by omega) (by omega),u64 (x:=val * 256 + 255) (by omega) (by omega),u64 (x:=val * 256 + 255 - _) (by omega) (by omega),
  and31 (by omega) (by omega),u64 (by omega) (by omega)]
 omega
theorem norm_loop {N : Nat} {back window waiting : Int} {bad : Bool} {b : List Int} (hb : Bytes b) (hl : b.length < 140737488351233) :
  ∀ (nn n : Nat) (q : Q) (count : Int),q.Pre -> 8388608 < q.rng * 256 ^ n -> 0 <= count -> count + 8 * n < 2199023255552 -> n < nn ->
   Rc.norm.loop0 N nn back window waiting bad b q.rng q.val q.last (fr b q.m) count =
    some ((Q.norm b n q).rng,(Q.norm b n q).val,(Q.norm b n q).last,fr b (Q.norm b n q).m,count + 8 * (((Q.norm b n q).m - q.m : Nat) : Int))
 | 0,n,q,count,h,hn,hc0,hc1,h0 => by omega
 | nn + 1,n,q,count,h,hn,hc0,hc1,h0 => by
  unfold Rc.norm.loop0
  simp only [br_dec,chkI_same,chkB_same,chkL_same,next_F hb hl,obind_of,p8,p1]
  by_cases hr : q.rng <= 8388608
  ·rw [if_pos hr]
   cases n with
   | zero => simp at hn; omega
   | succ n =>
    have hs := h.step hb hr
    have ih := norm_loop (N:=N) (back:=back) (window:=window) (waiting:=waiting) (bad:=bad) hb hl nn n (q.step b) (count + 8) hs (by
     simp only [Q.step]
     rw [Int.pow_succ] at hn
     rw [Int.mul_assoc,Int.mul_comm 256]
     exact hn) (by omega) (by omega) (by omega)
    obtain ⟨h1,h2,h3,h4,h5,h6⟩ := h
    obtain ⟨h7,h8⟩ := nb_range hb q.m
    have hm := Q.norm_m b n (q.step b)
    rw [step_val h3 (by omega) h5 h6 h7 h8,u64 (by omega) (by omega),i64 (by omega) (by omega)]
    simp only [Q.step] at ih hm ⊢
    rw [ih]
    simp only [Q.norm,if_pos hr,Q.step]
    congr 5
    omega
  ·rw [if_neg hr]
   have hs := Q.norm_stop b (q:=q) (by omega) n
   rw [hs]
   simp
theorem norm_F {N : Nat} {back window waiting count : Int} {bad : Bool} {b : List Int} (hb : Bytes b) (hl : b.length < 140737488351233) {q : Q} (h : q.Pre) (hc0 : 0 <= count) (hc1 : count < 1099511627776) (hN : 8 <= N) :
  Rc.norm.F N q.rng q.val q.last (fr b q.m) back window waiting count bad b =
   some ((q.on b).rng,(q.on b).val,(q.on b).last,fr b (q.on b).m,count + 8 * (((q.on b).m - q.m : Nat) : Int)) := by
 unfold Rc.norm.F
 rw [norm_loop hb hl N 4 q count h (by have := h.r0; omega) hc0 (by omega) (by omega)]
 simp only [obind_of,chkI_same,chkB_same,chkL_same]
 rfl
end Go.Pl
/-
 Chapter 3 in plain words: to choose, to take, tables, symbols, flags.
 Conditions: none.
-/
namespace Go.Pl
open Go.Eng Go.Proofs
def Q.ch (q : Q) (ft : Int) : Int := ft - min (q.val / (q.rng / ft) + 1) ft
def Q.tk0 (q : Q) (fl fh ft : Int) : Q := ⟨if fl > 0 then q.rng / ft * (fh - fl) else q.rng - q.rng / ft * (ft - fh),q.val - q.rng / ft * (ft - fh),q.last,q.m⟩
def Q.tk (b : List Int) (q : Q) (fl fh ft : Int) : Q := (q.tk0 fl fh ft).on b
theorem e_facts {r ft : Int} (h0 : 8388608 < r) (f0 : 1 <= ft) (f1 : ft <= 65536) : 1 <= r / ft /\ r / ft * ft <= r /\ r / ft <= r := by
 have h1 := Int.ediv_mul_le r (show ft ≠ 0 by omega)
 have h2 : 1 <= r / ft := by
  rw [Int.le_ediv_iff_mul_le (by omega)]
  omega
 refine ⟨h2,h1,?_⟩
 have : r / ft * 1 <= r / ft * ft := Int.mul_le_mul_of_nonneg_left f0 (by omega)
 omega
theorem d_facts {v e : Int} (h0 : 0 <= v) (he : 1 <= e) : 0 <= v / e /\ v / e * e <= v /\ v < (v / e + 1) * e /\ v / e <= v := by
 have h1 := Int.ediv_mul_le v (show e ≠ 0 by omega)
 have h2 := Int.lt_ediv_add_one_mul_self v (show 0 < e by omega)
 have h3 : 0 <= v / e := Int.ediv_nonneg h0 (by omega)
 refine ⟨h3,h1,h2,?_⟩
 have : v / e * 1 <= v / e * e := Int.mul_le_mul_of_nonneg_left he h3
 omega
theorem Q.ch_range {q : Q} (h : q.Ok) {ft : Int} (f0 : 1 <= ft) (f1 : ft <= 65536) : 0 <= q.ch ft /\ q.ch ft < ft := by
 obtain ⟨e0,_,_⟩ := e_facts h.r0 f0 f1
 obtain ⟨d0,_⟩ := d_facts h.v0 e0
 unfold Q.ch
 omega
structure Takes (q : Q) (fl fh ft : Int) : Prop where
 f0 : 1 <= ft
 f1 : ft <= 65536
 a : 0 <= fl
 b : fl <= q.ch ft
 c : q.ch ft < fh
 d : fh <= ft
theorem Takes.bounds {q : Q} (h : q.Ok) {fl fh ft : Int} (t : Takes q fl fh ft) :
  0 <= q.rng / ft * (ft - fh) /\ q.rng / ft * (ft - fh) <= q.val /\ q.rng / ft * (ft - fh) <= q.rng /\ 1 <= q.rng / ft * (fh - fl) /\ q.rng / ft * (fh - fl) <= q.rng /\ (fl > 0 -> q.val - q.rng / ft * (ft - fh) < q.rng / ft * (fh - fl)) := by
 obtain ⟨f0,f1,ha,hb,hc,hd⟩ := t
 obtain ⟨e0,e1,e2⟩ := e_facts h.r0 f0 f1
 obtain ⟨d0,d1,d2,d3⟩ := d_facts h.v0 e0
 unfold Q.ch at hb hc
 generalize hE : q.rng / ft = E at *
 generalize hD : q.val / E = D at *
 have hv1 := h.v1
 have k1 : 0 <= E * (ft - fh) := Int.mul_nonneg (by omega) (by omega)
 have k2 : E * (ft - fh) <= E * D := Int.mul_le_mul_of_nonneg_left (by omega) (by omega)
 have k3 : E * D = D * E := Int.mul_comm _ _
 have k4 : E * 1 <= E * (fh - fl) := Int.mul_le_mul_of_nonneg_left (by omega) (by omega)
 have k5 : E * (fh - fl) <= E * ft := Int.mul_le_mul_of_nonneg_left (by omega) (by omega)
 have k6 : E * (fh - fl) = E * (ft - fl) - E * (ft - fh) := by rw [<- Int.mul_sub]; congr 1; omega
 refine ⟨k1,by omega,by omega,by omega,by omega,fun hfl => ?_⟩
 have k7 : (D + 1) * E <= E * (ft - fl) := by
  rw [Int.mul_comm]
  exact Int.mul_le_mul_of_nonneg_left (by omega) (by omega)
 omega
theorem Q.tk0_pre {q : Q} (h : q.Ok) {fl fh ft : Int} (t : Takes q fl fh ft) : (q.tk0 fl fh ft).Pre := by
 obtain ⟨k1,k2,k3,k4,k5,k6⟩ := t.bounds h
 have h1 := h.r1
 have h2 := h.v1
 have h3 := h.v0
 refine ⟨?_,?_,?_,?_,h.l0,h.l1⟩
 ·simp only [Q.tk0]; split <;> omega
 ·simp only [Q.tk0]; split <;> omega
 ·simp only [Q.tk0]; omega
 ·simp only [Q.tk0]
  split
  ·rename_i hf; exact k6 hf
  ·omega
theorem Q.tk_ok {b : List Int} (hb : Bytes b) {q : Q} (h : q.Ok) {fl fh ft : Int} (t : Takes q fl fh ft) : (q.tk b fl fh ft).Ok := Q.on_ok hb (q.tk0_pre h t)
theorem Q.tk_m (b : List Int) (q : Q) (fl fh ft : Int) : q.m <= (q.tk b fl fh ft).m /\ (q.tk b fl fh ft).m <= q.m + 4 := Q.on_m b (q.tk0 fl fh ft)
def ct (c : Int) (q q' : Q) : Int := c + 8 * ((q'.m - q.m : Nat) : Int)
section
variable {N : Nat} {front back window waiting count : Int} {bad : Bool} {b : List Int}
theorem choose_F {q : Q} (h : q.Ok) {ft : Int} (f0 : 1 <= ft) (f1 : ft <= 65536) :
  Rc.choose.F N ft q.rng q.val q.last front back window waiting count bad b = some (q.ch ft) := by
 obtain ⟨e0,e1,e2⟩ := e_facts h.r0 f0 f1
 obtain ⟨d0,d1,d2,d3⟩ := d_facts h.v0 e0
 have h1 := h.r1
 have h2 := h.v1
 unfold Rc.choose.F Q.ch
 simp only [chkI_same,chkB_same,chkL_same]
 rw [tdiv_ediv (by omega),u64 (x:=q.rng / ft) (by omega) (by omega),chk_pos (by omega),chk_pos (by omega),tdiv_ediv (by omega),u64 (x:=q.val / _) d0 (by omega),u64 (x:=_ + 1) (by omega) (by omega)]
 by_cases hlt : ft < q.val / (q.rng / ft) + 1
 ·rw [if_pos hlt,u64 (by omega) (by omega)]
  exact congrArg some (by omega : (ft - ft : Int) = ft - min (q.val / (q.rng / ft) + 1) ft)
 ·rw [if_neg hlt,u64 (by omega) (by omega)]
  exact congrArg some (by omega : (ft - (q.val / (q.rng / ft) + 1) : Int) = ft - min (q.val / (q.rng / ft) + 1) ft)
theorem take_F (hb : Bytes b) (hl : b.length < 140737488351233) {q : Q} (h : q.Ok) {fl fh ft : Int} (t : Takes q fl fh ft) (hc0 : 0 <= count) (hc1 : count < 1099511627776) (hN : 8 <= N) :
  Rc.take.F N fl fh ft q.rng q.val q.last (fr b q.m) back window waiting count bad b =
   some ((q.tk b fl fh ft).rng,(q.tk b fl fh ft).val,(q.tk b fl fh ft).last,fr b (q.tk b fl fh ft).m,ct count q (q.tk b fl fh ft)) := by
 have hp := q.tk0_pre h t
 obtain ⟨k1,k2,k3,k4,k5,k6⟩ := t.bounds h
 obtain ⟨f0,f1,ha,hb',hc,hd⟩ := t
 obtain ⟨e0,e1,e2⟩ := e_facts h.r0 f0 f1
 have h1 := h.r1
 have h2 := h.v1
 obtain ⟨c0,c1⟩ := Q.ch_range h f0 f1
 have hn := norm_F (N:=N) (back:=back) (window:=window) (waiting:=waiting) (count:=count) (bad:=bad) hb hl hp hc0 hc1 hN
 unfold Rc.take.F
 simp only [chkI_same,chkB_same,chkL_same,br_dec]
 rw [tdiv_ediv (by omega),u64 (x:=q.rng / ft) (by omega) (by omega),chk_pos (by omega),u64 (x:=ft - fh) (by omega) (by omega),u64 (x:=fh - fl) (by omega) (by omega),
  u64 (x:=_ * (ft - fh)) (by omega) (by omega),u64 (x:=_ * (fh - fl)) (by omega) (by omega),u64 (x:=q.val - _) (by omega) (by omega),u64 (x:=q.rng - _) (by omega) (by omega)]
 simp only [Q.tk0] at hn
 split
 ·rename_i hf
  rw [if_pos hf] at hn
  rw [hn]
  simp only [obind_of,Q.tk,Q.tk0,if_pos hf,ct]
 ·rename_i hf
  rw [if_neg hf] at hn
  rw [hn]
  simp only [obind_of,Q.tk,Q.tk0,if_neg hf,ct]
end
section
variable {N : Nat} {front back wait waiting count eq : Int} {bad : Bool} {b : List Int}
theorem rnext_F {rng val last : Int} (hb : Bytes b) (hl : b.length < 140737488351233) (m : Nat) :
  Rc.rnext.F N rng val last (fr b m) back wait waiting count eq bad b = some (nb b m,fr b (m + 1)) := by
 unfold Rc.rnext.F fr
 simp only [br_dec,chkI_same,chkB_same,chkL_same]
 by_cases h : m < b.length
 ·have e1 : min m b.length = m := by omega
  have e2 : min (m + 1) b.length = m + 1 := by omega
  rw [e1,e2,if_neg (by omega),i64 (x:=(m : Int) + 1) (by omega) (by omega),i64 (x:=(m : Int) + 1 - 1) (by omega) (by omega),chk_pos (by omega)]
  have e3 : ((m : Int) + 1 - 1).toNat = m := by omega
  obtain ⟨h1,h2⟩ := nb_range hb m
  unfold nb at h1 h2 ⊢
  rw [e3,i64 (x:=b.getD m 0) (by omega) (by omega)]
  rfl
 ·have e1 : min m b.length = b.length := by omega
  have e2 : min (m + 1) b.length = b.length := by omega
  rw [e1,e2,if_pos (by omega)]
  unfold nb
  rw [getD_out (by omega)]
theorem rstep_val {val last x : Int} (h0 : 0 <= val) (h1 : val < 8388608) (l0 : 0 <= last) (l1 : last < 256) (x0 : 0 <= x) (x1 : x < 256) :
  (IntKind.u64.wrap (IntKind.u64.wrap (256 * val) + IntKind.u64.wrap (IntKind.i64.wrap (255 - (IntKind.i64.wrap ((IntKind.i64.wrap (IntKind.i64.wrap (256 * last) + x)).tdiv 2)).tmod 256)))).tmod 2147483648 =
   val * 256 + 255 - ((last * 256 + x) / 2) % 256 := by
 rw [i64 (x:=256 * last) (by omega) (by omega),i64 (x:=256 * last + x) (by omega) (by omega),tdiv_ediv (by omega),i64 (x:=(256 * last + x) / 2) (by omega) (by omega),tmod_emod (a:=(256 * last + x) / 2) (by omega),
  i64 (x:=255 - _) (by omega) (by omega),u64 (x:=255 - _) (by omega) (by omega),u64 (x:=256 * val) (by omega) (by omega),u64 (x:=256 * val + _) (by omega) (by omega),tmod_emod (by omega)]
 omega
theorem ron_loop (hb : Bytes b) (hl : b.length < 140737488351233) :
  ∀ (nn n : Nat) (q : Q) (count : Int),q.Pre -> 8388608 < q.rng * 256 ^ n -> 0 <= count -> count + 8 * n < 2199023255552 -> n < nn ->
   Rc.ron.loop0 N nn back wait waiting eq bad b q.rng q.val q.last (fr b q.m) count =
    some ((Q.norm b n q).rng,(Q.norm b n q).val,(Q.norm b n q).last,fr b (Q.norm b n q).m,count + 8 * (((Q.norm b n q).m - q.m : Nat) : Int))
 | 0,n,q,count,h,hn,hc0,hc1,h0 => by omega
 | nn + 1,n,q,count,h,hn,hc0,hc1,h0 => by
  unfold Rc.ron.loop0
  simp only [br_dec,chkI_same,chkB_same,chkL_same,rnext_F hb hl,obind_of]
  by_cases hr : q.rng <= 8388608
  ·rw [if_pos hr]
   cases n with
   | zero => simp at hn; omega
   | succ n =>
    have hs := h.step hb hr
    have ih := ron_loop hb hl nn n (q.step b) (count + 8) hs (by
     simp only [Q.step]
     rw [Int.pow_succ] at hn
     rw [Int.mul_assoc,Int.mul_comm 256]
     exact hn) (by omega) (by omega) (by omega)
    obtain ⟨h1,h2,h3,h4,h5,h6⟩ := h
    obtain ⟨h7,h8⟩ := nb_range hb q.m
    have hm := Q.norm_m b n (q.step b)
    rw [rstep_val h3 (by omega) h5 h6 h7 h8,u64 (by omega) (by omega),i64 (by omega) (by omega)]
    simp only [Q.step] at ih hm ⊢
    rw [ih]
    simp only [Q.norm,if_pos hr,Q.step]
    congr 5
    omega
  ·rw [if_neg hr]
   have hs := Q.norm_stop b (q:=q) (by omega) n
   rw [hs]
   simp
theorem ron_F (hb : Bytes b) (hl : b.length < 140737488351233) {q : Q} (h : q.Pre) (hc0 : 0 <= count) (hc1 : count < 1099511627776) (hN : 8 <= N) :
  Rc.ron.F N q.rng q.val q.last (fr b q.m) back wait waiting count eq bad b =
   some ((q.on b).rng,(q.on b).val,(q.on b).last,fr b (q.on b).m,count + 8 * (((q.on b).m - q.m : Nat) : Int)) := by
 unfold Rc.ron.F
 rw [ron_loop hb hl N 4 q count h (by have := h.r0; omega) hc0 (by omega) (by omega)]
 simp only [obind_of,chkI_same,chkB_same,chkL_same]
 rfl
theorem rchoose_F {q : Q} (h : q.Ok) {ft : Int} (f0 : 1 <= ft) (f1 : ft <= 65536) :
  Rc.rchoose.F N ft q.rng q.val q.last front back wait waiting count eq bad b = some (q.ch ft,q.rng / ft) := by
 obtain ⟨e0,e1,e2⟩ := e_facts h.r0 f0 f1
 obtain ⟨d0,d1,d2,d3⟩ := d_facts h.v0 e0
 have h1 := h.r1
 have h2 := h.v1
 unfold Rc.rchoose.F Q.ch
 simp only [chkI_same,chkB_same,chkL_same,br_dec]
 rw [tdiv_ediv (by omega),u64 (x:=q.rng / ft) (by omega) (by omega),chk_pos (by omega),chk_pos (by omega),tdiv_ediv (by omega),u64 (x:=q.val / _) d0 (by omega),u64 (x:=_ + 1) (by omega) (by omega)]
 split
 ·rw [u64 (by omega) (by omega),Option.some.injEq,Prod.mk.injEq]; exact ⟨by omega,rfl⟩
 ·rw [u64 (by omega) (by omega),Option.some.injEq,Prod.mk.injEq]; exact ⟨by omega,rfl⟩
theorem rtake_F (hb : Bytes b) (hl : b.length < 140737488351233) {q : Q} (h : q.Ok) {fl fh ft : Int} (t : Takes q fl fh ft) (hc0 : 0 <= count) (hc1 : count < 1099511627776) (hN : 8 <= N) :
  Rc.rtake.F N fl fh ft q.rng q.val q.last (fr b q.m) back wait waiting count (q.rng / ft) bad b =
   some ((q.tk b fl fh ft).rng,(q.tk b fl fh ft).val,(q.tk b fl fh ft).last,fr b (q.tk b fl fh ft).m,ct count q (q.tk b fl fh ft)) := by
 have hp := q.tk0_pre h t
 obtain ⟨k1,k2,k3,k4,k5,k6⟩ := t.bounds h
 obtain ⟨f0,f1,ha,hb',hc,hd⟩ := t
 obtain ⟨e0,e1,e2⟩ := e_facts h.r0 f0 f1
 have h1 := h.r1
 have h2 := h.v1
 obtain ⟨c0,c1⟩ := Q.ch_range h f0 f1
 have hn := ron_F (N:=N) (back:=back) (wait:=wait) (waiting:=waiting) (count:=count) (eq:=q.rng / ft) (bad:=bad) hb hl hp hc0 hc1 hN
 unfold Rc.rtake.F
 simp only [chkI_same,chkB_same,chkL_same,br_dec]
 rw [u64 (x:=ft - fh) (by omega) (by omega),u64 (x:=fh - fl) (by omega) (by omega),
  u64 (x:=_ * (ft - fh)) (by omega) (by omega),u64 (x:=_ * (fh - fl)) (by omega) (by omega),u64 (x:=q.val - _) (by omega) (by omega),u64 (x:=q.rng - _) (by omega) (by omega)]
 simp only [Q.tk0] at hn
 split
 ·rename_i hf
  rw [if_pos hf] at hn
  rw [hn]
  simp only [obind_of,Q.tk,Q.tk0,if_pos hf,ct]
 ·rename_i hf
  rw [if_neg hf] at hn
  rw [hn]
  simp only [obind_of,Q.tk,Q.tk0,if_neg hf,ct]
end
structure GoodT (t : List Int) : Prop where
 n0 : 1 <= t.length
 n1 : t.length <= 256
 last : t.getD (t.length - 1) 0 = 0
 first : t.getD 0 0 < 256
 down : ∀ k,1 <= k -> k < t.length -> t.getD k 0 < t.getD (k - 1) 0
theorem GoodT.le {t : List Int} (h : GoodT t) : ∀ (d k : Nat),k + d < t.length -> t.getD (k + d) 0 + d <= t.getD k 0
 | 0,k,_ => by simp
 | d + 1,k,hk => by
  have h1 := h.le d k (by omega)
  have h2 := h.down (k + (d + 1)) (by omega) hk
  rw [show k + (d + 1) - 1 = k + d by omega] at h2
  omega
theorem GoodT.range {t : List Int} (h : GoodT t) {k : Nat} (hk : k < t.length) : 0 <= t.getD k 0 /\ t.getD k 0 < 256 := by
 have h1 := h.le (t.length - 1 - k) k (by omega)
 have h2 := h.le k 0 (by omega)
 rw [show k + (t.length - 1 - k) = t.length - 1 by omega,h.last] at h1
 rw [Nat.zero_add] at h2
 have := h.first
 omega
open Classical in
noncomputable def goodT (t : List Int) : Bool := decide (GoodT t)
theorem goodT_true {t : List Int} : goodT t = true ↔ GoodT t := by simp [goodT]
theorem goodT_false {t : List Int} : goodT t = false ↔ ¬ GoodT t := by simp [goodT]
theorem good_loop {N : Nat} {t e : List Int} (hn : t.length <= 256) (h1 : 1 <= t.length) : ∀ (nn k : Nat) (s : Bool),1 <= k -> k <= t.length -> t.length - k < nn ->
  ((∀ j,k <= j -> j < t.length -> t.getD j 0 < t.getD (j - 1) 0) -> Rc.good.loop4 N nn e t (k : Int) s = some (.inl s)) /\
  (¬ (∀ j,k <= j -> j < t.length -> t.getD j 0 < t.getD (j - 1) 0) -> Rc.good.loop4 N nn e t (k : Int) s = some (.inr false))
 | 0,k,s,_,_,h => by omega
 | nn + 1,k,s,hk0,hk1,h => by
  unfold Rc.good.loop4
  simp only [br_dec,chkL_same,omap_of]
  by_cases hk : k < t.length
  ·rw [if_pos (by omega),chk_pos (by omega),i64 (x:=(k : Int) - 1) (by omega) (by omega),chk_pos (by omega),show ((k : Int) - 1).toNat = k - 1 by omega,Int.toNat_natCast]
   have ih := good_loop (N:=N) (e:=e) hn h1 nn (k + 1) s (by omega) (by omega) (by omega)
   rw [i64 (x:=(k : Int) + 1) (by omega) (by omega)]
   rw [show ((k + 1 : Nat) : Int) = (k : Int) + 1 by omega] at ih
   by_cases hd : t.getD k 0 < t.getD (k - 1) 0
   ·rw [if_neg (by omega)]
    refine ⟨fun ha => ih.1 fun j hj => ha j (by omega),fun hna => ih.2 fun ha => hna fun j hj hj2 => ?_⟩
    rcases Nat.eq_or_lt_of_le hj with rfl | hlt
    ·exact hd
    ·exact ha j hlt hj2
   ·rw [if_pos (by omega)]
    exact ⟨fun ha => absurd (ha k (Nat.le_refl _) hk) hd,fun _ => rfl⟩
  ·rw [if_neg (by omega)]
   exact ⟨fun _ => rfl,fun hna => absurd (fun j hj hj2 => absurd hj2 (by omega)) hna⟩
theorem good_F {N : Nat} (t : List Int) (hN : 300 <= N) : Rc.good.F N t = some (goodT t) := by
 unfold Rc.good.F
 simp only [br_dec,br_bne]
 by_cases h1 : t.length < 1
 ·rw [if_pos (by omega),goodT_false.2 fun h => by have := h.n0; omega]
 rw [if_neg (by omega)]
 by_cases h2 : 256 < t.length
 ·rw [if_pos (by omega),goodT_false.2 fun h => by have := h.n1; omega]
 rw [if_neg (by omega),i64 (x:=(t.length : Int) - 1) (by omega) (by omega),chk_pos (by omega),chk_pos (by omega),show ((t.length : Int) - 1).toNat = t.length - 1 by omega]
 by_cases h3 : t.getD (t.length - 1) 0 = 0
 ·rw [if_pos h3]
  simp only [Int.toNat_zero]
  by_cases h4 : t.getD 0 0 >= 256
  ·rw [if_pos h4,goodT_false.2 fun h => by have := h.first; omega]
  ·rw [if_neg h4]
   have hl := good_loop (N:=N) (e:=t) (t:=t) (by omega) (by omega) N 1 false (Nat.le_refl _) (by omega) (by omega)
   by_cases h5 : ∀ j,1 <= j -> j < t.length -> t.getD j 0 < t.getD (j - 1) 0
   ·have := hl.1 h5
    rw [show ((1 : Nat) : Int) = 1 from rfl] at this
    rw [this,osum_inl,goodT_true.2 ⟨by omega,by omega,h3,by omega,h5⟩]
   ·have := hl.2 h5
    rw [show ((1 : Nat) : Int) = 1 from rfl] at this
    rw [this,osum_inr,goodT_false.2 fun h => h5 h.down]
 ·rw [if_neg h3,goodT_false.2 fun h => h3 h.last]
def symK (t : List Int) (f : Int) : Nat -> Nat -> Nat
 | 0,k => k
 | n + 1,k => if 256 - t.getD k 0 <= f then symK t f n (k + 1) else k
theorem symK_spec {t : List Int} (h : GoodT t) {f : Int} (hf : f < 256) : ∀ (n k : Nat),k < t.length -> t.length <= n + k -> (∀ j,j < k -> 256 - t.getD j 0 <= f) ->
  symK t f n k < t.length /\ f < 256 - t.getD (symK t f n k) 0 /\ ∀ j,j < symK t f n k -> 256 - t.getD j 0 <= f
 | 0,k,hk,hn,_ => by omega
 | n + 1,k,hk,hn,hj => by
  simp only [symK]
  split
  ·rename_i hc
   by_cases hk2 : k + 1 < t.length
   ·refine symK_spec h hf n (k + 1) hk2 (by omega) fun j hj2 => ?_
    rcases Nat.eq_or_lt_of_le (Nat.le_of_lt_succ hj2) with rfl | hlt
    ·exact hc
    ·exact hj j hlt
   ·have : k = t.length - 1 := by omega
    rw [this,h.last] at hc
    omega
  ·rename_i hc
   exact ⟨hk,by omega,hj⟩
def symL (t : List Int) (k : Nat) : Int := if k = 0 then 0 else 256 - t.getD (k - 1) 0
theorem sym_loop {N : Nat} {t : List Int} (h : GoodT t) {f : Int} (hf0 : 0 <= f) (hf : f < 256) : ∀ (nn n k : Nat),k < t.length -> t.length <= n + k -> n <= 256 -> n < nn ->
  Rc.symbol.loop5 N nn f t (k : Int) (symL t k) = some ((symK t f n k : Int),symL t (symK t f n k))
 | 0,n,k,hk,hn,_,h0 => by omega
 | nn + 1,n,k,hk,hn,hn2,h0 => by
  unfold Rc.symbol.loop5
  simp only [br_dec,chkL_same,chkI_same]
  obtain ⟨r0,r1⟩ := h.range hk
  rw [chk_pos (by omega),chk_pos (by omega),Int.toNat_natCast,i64 (x:=256 - t.getD k 0) (by omega) (by omega),i64 (x:=(k : Int) + 1) (by have := h.n1; omega) (by have := h.n1; omega)]
  cases n with
  | zero => omega
  | succ n =>
   simp only [symK]
   by_cases hc : 256 - t.getD k 0 <= f
   ·rw [if_pos hc,if_pos hc]
    have hk2 : k + 1 < t.length := by
     rcases Nat.lt_or_ge (k + 1) t.length with hh | hh
     ·exact hh
     ·have : k = t.length - 1 := by omega
      rw [this,h.last] at hc
      omega
    have ih := sym_loop (N:=N) h hf0 hf nn n (k + 1) hk2 (by omega) (by omega) (by omega)
    rw [show ((k + 1 : Nat) : Int) = (k : Int) + 1 by omega,show symL t (k + 1) = 256 - t.getD k 0 by simp [symL]] at ih
    exact ih
   ·rw [if_neg hc,if_neg hc]
def Q.sk (q : Q) (t : List Int) : Nat := symK t (q.ch 256) t.length 0
def Q.sy (b : List Int) (q : Q) (t : List Int) : Q := q.tk b (symL t (q.sk t)) (256 - t.getD (q.sk t) 0) 256
theorem Q.sk_spec {q : Q} (h : q.Ok) {t : List Int} (ht : GoodT t) : q.sk t < t.length /\ Takes q (symL t (q.sk t)) (256 - t.getD (q.sk t) 0) 256 := by
 obtain ⟨c0,c1⟩ := Q.ch_range h (ft:=256) (by omega) (by omega)
 obtain ⟨k1,k2,k3⟩ := symK_spec ht c1 t.length 0 (by have := ht.n0; omega) (by omega) (fun j hj => by omega)
 refine ⟨k1,⟨by omega,by omega,?_,?_,k2,?_⟩⟩
 ·unfold symL
  split
  ·omega
  ·have := ht.range (k:=symK t (q.ch 256) t.length 0 - 1) (by omega)
   unfold Q.sk
   omega
 ·unfold symL
  split
  ·omega
  ·rename_i hne
   exact k3 _ (by unfold Q.sk at hne ⊢; omega)
 ·have := ht.range k1
  unfold Q.sk
  omega
section
variable {N : Nat} {back window waiting count : Int} {bad : Bool} {b : List Int}
theorem symbol_F (hb : Bytes b) (hl : b.length < 140737488351233) {q : Q} (h : q.Ok) (t : List Int) (hc0 : 0 <= count) (hc1 : count < 1099511627776) (hN : 300 <= N) :
  (GoodT t -> Rc.symbol.F N q.rng q.val q.last (fr b q.m) back window waiting count bad t b =
   some ((q.sk t : Int),(q.sy b t).rng,(q.sy b t).val,(q.sy b t).last,fr b (q.sy b t).m,ct count q (q.sy b t))) /\
  (¬ GoodT t -> Rc.symbol.F N q.rng q.val q.last (fr b q.m) back window waiting count bad t b = some (0,q.rng,q.val,q.last,fr b q.m,count)) := by
 unfold Rc.symbol.F
 rw [good_F t hN,obind_of,br_not]
 simp only [chkI_same,chkB_same,chkL_same]
 refine ⟨fun ht => ?_,fun ht => ?_⟩
 ·rw [goodT_true.2 ht,if_pos rfl,choose_F h (by omega) (by omega),obind_of]
  obtain ⟨c0,c1⟩ := Q.ch_range h (ft:=256) (by omega) (by omega)
  obtain ⟨s1,s2⟩ := Q.sk_spec h ht
  have hloop := sym_loop (N:=N) ht c0 c1 N t.length 0 (by have := ht.n0; omega) (by omega) ht.n1 (by have := ht.n1; omega)
  rw [show symL t 0 = 0 from rfl,show ((0 : Nat) : Int) = 0 from rfl] at hloop
  obtain ⟨r0,r1⟩ := ht.range s1
  have hs0 := s2.a
  have hs1 := s2.b
  rw [i64 (by omega) (by omega),hloop,obind_of]
  unfold Q.sk at *
  rw [chk_pos (by omega)]
  simp only [Int.toNat_natCast]
  rw [u64 (x:=symL t _) (by omega) (by omega),i64 (x:=256 - _) (by omega) (by omega),u64 (x:=256 - _) (by omega) (by omega),take_F hb hl h s2 hc0 hc1 (by omega),obind_of]
  rfl
 ·rw [goodT_false.2 ht]
  rfl
end
section
variable {N : Nat} {back wait waiting count eq : Int} {bad : Bool} {b : List Int}
end
end Go.Pl
/-
 Chapter 3 in plain words: flags, bits from the end.
 Conditions: none.
-/
namespace Go.Pl
open Go.Eng Go.Proofs
theorem p2le {a b : Nat} (h : a <= b) : (2 : Int) ^ a <= 2 ^ b := by exact_mod_cast Nat.pow_le_pow_right (by omega) h
theorem p2pos (a : Nat) : (0 : Int) < 2 ^ a := by exact_mod_cast Nat.two_pow_pos a
def Q.fs (q : Q) (n : Int) : Int := q.rng / 2 ^ n.toNat
def Q.f0 (q : Q) (n : Int) : Q := if q.val < q.fs n then ⟨q.fs n,q.val,q.last,q.m⟩ else ⟨q.rng - q.fs n,q.val - q.fs n,q.last,q.m⟩
def Q.fl (b : List Int) (q : Q) (n : Int) : Q := (q.f0 n).on b
section
variable {N : Nat} {back window waiting count : Int} {bad : Bool} {b : List Int}
end
structure W where
 win : Int
 wai : Nat
 k : Nat
def eb (b : List Int) (k : Nat) : Int := if k < b.length then b.getD (b.length - 1 - k) 0 else 0
theorem eb_range {b : List Int} (h : Bytes b) (k : Nat) : 0 <= eb b k /\ eb b k < 256 := by
 unfold eb
 split
 ·exact h.get _
 ·omega
def W.step (b : List Int) (w : W) : W := ⟨w.win + eb b w.k * 2 ^ w.wai,w.wai + 8,w.k + 1⟩
def W.fill (b : List Int) (n : Nat) : Nat -> W -> W
 | 0,w => w
 | f + 1,w => if w.wai < n then W.fill b n f (w.step b) else w
structure W.Ok (w : W) : Prop where
 a : 0 <= w.win
 b : w.win < 2 ^ w.wai
 c : w.wai <= 31
theorem W.Ok.step {b : List Int} (hb : Bytes b) {w : W} (h : w.Ok) (hw : w.wai < 24) : (w.step b).Ok := by
 obtain ⟨h1,h2,h3⟩ := h
 obtain ⟨h4,h5⟩ := eb_range hb w.k
 have h6 := p2pos w.wai
 have h7 : 0 <= eb b w.k * 2 ^ w.wai := Int.mul_nonneg h4 (by omega)
 have h8 : eb b w.k * 2 ^ w.wai <= 255 * 2 ^ w.wai := Int.mul_le_mul_of_nonneg_right (by omega) (by omega)
 refine ⟨by simp only [W.step]; omega,?_,by simp only [W.step]; omega⟩
 simp only [W.step]
 rw [Int.pow_add]
 omega
theorem W.fill_ok {b : List Int} (hb : Bytes b) {n : Nat} (hn : n <= 24) : ∀ (f : Nat) (w : W),w.Ok -> (W.fill b n f w).Ok
 | 0,w,h => h
 | f + 1,w,h => by
  simp only [W.fill]
  split
  ·exact W.fill_ok hb hn f _ (h.step hb (by omega))
  ·exact h
theorem W.fill_n {b : List Int} {n : Nat} : ∀ (f : Nat) (w : W),n <= w.wai + 8 * f -> n <= (W.fill b n f w).wai
 | 0,w,h => by simpa [W.fill] using h
 | f + 1,w,h => by
  simp only [W.fill]
  split
  ·exact W.fill_n f _ (by simp only [W.step]; omega)
  ·omega
def W.at (b : List Int) (w : W) (n : Nat) : W := W.fill b n 4 w
def W.val (b : List Int) (w : W) (n : Nat) : Int := (w.at b n).win % 2 ^ n
def W.next (b : List Int) (w : W) (n : Nat) : W := ⟨(w.at b n).win / 2 ^ n,(w.at b n).wai - n,(w.at b n).k⟩
theorem W.next_ok {b : List Int} (hb : Bytes b) {w : W} (h : w.Ok) {n : Nat} (hn : n <= 24) : (w.next b n).Ok := by
 obtain ⟨h1,h2,h3⟩ := W.fill_ok hb hn 4 w h
 have h4 := W.fill_n (b:=b) (n:=n) 4 w (by omega)
 unfold W.next W.at
 refine ⟨Int.ediv_nonneg h1 (by have := p2pos n; omega),?_,by simp only; omega⟩
 simp only
 rw [Int.ediv_lt_iff_lt_mul (p2pos n),<- Int.pow_add,show (W.fill b n 4 w).wai - n + n = (W.fill b n 4 w).wai by omega]
 exact h2
theorem W.val_range {b : List Int} (w : W) (n : Nat) : 0 <= w.val b n /\ w.val b n < 2 ^ n :=
 ⟨Int.emod_nonneg _ (by have := p2pos n; omega),Int.emod_lt_of_pos _ (p2pos n)⟩
theorem or_win {win x : Int} {wai : Nat} (h0 : 0 <= win) (h1 : win < 2 ^ wai) (hw : wai < 24) (x0 : 0 <= x) (x1 : x < 256) :
  IntKind.u64.wrap ↑(BitVec.ofInt IntKind.u64.bits win ||| BitVec.ofInt IntKind.u64.bits (IntKind.u64.wrap (x * 2 ^ min wai IntKind.u64.bits))).toNat = win + x * 2 ^ wai := by
 have h6 := p2pos wai
 have h7 : (2 : Int) ^ wai <= 16777216 := p2le (a:=wai) (b:=24) (by omega)
 have h8 : 0 <= x * 2 ^ wai := Int.mul_nonneg x0 (by omega)
 have h9 : x * 2 ^ wai <= 255 * 2 ^ wai := Int.mul_le_mul_of_nonneg_right (by omega) (by omega)
 rw [bits_u64,show min wai 64 = wai by omega,u64 (x:=x * 2 ^ wai) h8 (by omega),or_comm',or_add x0 (by show x * 2 ^ wai < 18446744073709551616; omega) h0 h1 (by omega),u64 (by omega) (by omega)]
 omega
section
variable {N : Nat} {rng val last front count : Int} {bad : Bool} {b : List Int}
theorem endb_F {window waiting : Int} (hb : Bytes b) (hl : b.length < 140737488351233) (k : Nat) :
  Rc.endb.F N rng val last front (fr b k) window waiting count bad b = some (eb b k,fr b (k + 1)) := by
 unfold Rc.endb.F fr
 simp only [br_dec,chkI_same,chkB_same,chkL_same]
 by_cases h : k < b.length
 ·rw [show min k b.length = k by omega,show min (k + 1) b.length = k + 1 by omega,if_neg (by omega),i64 (x:=(k : Int) + 1) (by omega) (by omega),i64 (x:=(b.length : Int) - _) (by omega) (by omega),chk_pos (by omega)]
  obtain ⟨h1,h2⟩ := eb_range hb k
  unfold eb at h1 h2 ⊢
  rw [if_pos h] at h1 h2 ⊢
  rw [show ((b.length : Int) - ((k : Int) + 1)).toNat = b.length - 1 - k by omega,u64 h1 (by omega)]
  rfl
 ·rw [show min k b.length = b.length by omega,show min (k + 1) b.length = b.length by omega,if_pos (by omega)]
  unfold eb
  rw [if_neg h]
theorem bits_loop (hb : Bytes b) (hl : b.length < 140737488351233) {n : Nat} (hn : n <= 24) : ∀ (nn f : Nat) (w : W),w.Ok -> n <= w.wai + 8 * f -> f < nn ->
  Rc.bits.loop3 N nn (n : Int) rng val last front count bad b (fr b w.k) w.win (w.wai : Int) = some (fr b (W.fill b n f w).k,(W.fill b n f w).win,((W.fill b n f w).wai : Int))
 | 0,f,w,_,_,h => by omega
 | nn + 1,f,w,h,hf,h0 => by
  unfold Rc.bits.loop3
  simp only [br_dec,chkI_same,chkB_same,chkL_same,endb_F hb hl,obind_of]
  by_cases hw : w.wai < n
  ·rw [if_pos (by omega),chk_pos (by omega),Int.toNat_natCast]
   obtain ⟨x0,x1⟩ := eb_range hb w.k
   cases f with
   | zero => omega
   | succ f =>
    have hc := h.c
    rw [or_win h.a h.b (by omega) x0 x1,i64 (by omega) (by omega)]
    have ih := bits_loop hb hl hn nn f (w.step b) (h.step hb (by omega)) (by simp only [W.step]; omega) (by omega)
    simp only [W.fill,if_pos hw]
    simp only [W.step] at ih ⊢
    exact ih
  ·rw [if_neg (by omega)]
   have : W.fill b n f w = w := by cases f with
    | zero => rfl
    | succ f => simp only [W.fill,if_neg hw]
   rw [this]
theorem mask_val {win : Int} {n : Nat} (h0 : 0 <= win) (h1 : win < 4294967296) (hn : n <= 24) :
  IntKind.i64.wrap (IntKind.u64.wrap ↑(BitVec.ofInt IntKind.u64.bits win &&& BitVec.ofInt IntKind.u64.bits (IntKind.u64.wrap (IntKind.u64.wrap (1 * 2 ^ min n IntKind.u64.bits) - 1))).toNat) = win % 2 ^ n := by
 have h6 := p2pos n
 have h7 : (2 : Int) ^ n <= 16777216 := p2le (a:=n) (b:=24) (by omega)
 have h8 := Int.emod_nonneg win (show (2 : Int) ^ n ≠ 0 by omega)
 have h9 := Int.emod_lt_of_pos win h6
 rw [bits_u64,show min n 64 = n by omega,Int.one_mul,u64 (x:=2 ^ n) (by omega) (by omega),u64 (x:=2 ^ n - 1) (by omega) (by omega),
  and_mask (w:=64) (k:=n) h0 (by show win < 18446744073709551616; omega) rfl (by omega),u64 h8 (by omega),i64 (by omega) (by omega)]
theorem bits_F (hb : Bytes b) (hl : b.length < 140737488351233) {w : W} (h : w.Ok) (n : Int) (hc0 : 0 <= count) (hc1 : count < 1099511627776) (hN : 300 <= N) :
  Rc.bits.F N n rng val last front (fr b w.k) w.win (w.wai : Int) count bad b =
   some (if 0 <= n /\ n <= 24 then (w.val b n.toNat,fr b (w.next b n.toNat).k,(w.next b n.toNat).win,((w.next b n.toNat).wai : Int),count + n) else (0,fr b w.k,w.win,(w.wai : Int),count)) := by
 unfold Rc.bits.F
 simp only [br_dec,chkI_same,chkB_same,chkL_same]
 by_cases n0 : n < 0
 ·rw [if_pos n0,if_neg (by omega)]
 rw [if_neg n0]
 by_cases n1 : n > 24
 ·rw [if_pos n1,if_neg (by omega)]
 rw [if_neg n1,if_pos (show 0 <= n /\ n <= 24 by omega)]
 obtain ⟨k,rfl⟩ : ∃ k : Nat,n = k := ⟨n.toNat,by omega⟩
 have hk : k <= 24 := by omega
 rw [bits_loop hb hl hk N 4 w h (by omega) (by omega),obind_of]
 simp only [Int.toNat_natCast]
 obtain ⟨h1,h2,h3⟩ := W.fill_ok hb hk 4 w h
 have h4 := W.fill_n (b:=b) (n:=k) 4 w (by omega)
 have h5 : (2 : Int) ^ (W.fill b k 4 w).wai <= 2147483648 := p2le (b:=31) h3
 rw [chk_pos (by omega),chk_pos (by omega),mask_val h1 (by omega) hk,i64 (x:=count + k) (by omega) (by omega),i64 (by omega) (by omega),bits_u64,show min k 64 = k by omega,fdiv_ediv (by have := p2pos k; omega)]
 simp only [W.val,W.next,W.at]
 congr 5
 omega
end
end Go.Pl
/-
 Plain words: how many bits a number has; the code's two ways to count them.
 Conditions: none.
-/
namespace Go.Pl
open Go.Eng Go.Proofs
def bl (x : Int) : Int := if x <= 0 then 0 else (x.toNat.log2 : Int) + 1
theorem bl_of {x : Int} {k : Nat} (h0 : 2 ^ k <= x) (h1 : x < 2 ^ (k + 1)) : bl x = k + 1 := by
 have hp := p2pos k
 obtain ⟨n,rfl⟩ := Int.eq_ofNat_of_zero_le (show 0 <= x by omega)
 have g0 : 2 ^ k <= n := by exact_mod_cast h0
 have g1 : n < 2 ^ (k + 1) := by exact_mod_cast h1
 have hn : n ≠ 0 := by have := Nat.two_pow_pos k; omega
 unfold bl
 rw [if_neg (by omega),Int.toNat_natCast]
 have e1 := (Nat.le_log2 hn).2 g0
 have e2 := (Nat.log2_lt hn).2 g1
 omega
theorem bl_spec {x : Int} (h : 1 <= x) : ∃ k : Nat,bl x = k + 1 /\ 2 ^ k <= x /\ x < 2 ^ (k + 1) := by
 obtain ⟨n,rfl⟩ := Int.eq_ofNat_of_zero_le (show 0 <= x by omega)
 have hn : n ≠ 0 := by omega
 refine ⟨n.log2,?_,by exact_mod_cast Nat.log2_self_le hn,by exact_mod_cast Nat.lt_log2_self⟩
 unfold bl
 rw [if_neg (by omega),Int.toNat_natCast]
theorem bl_zero {x : Int} (h : x <= 0) : bl x = 0 := by unfold bl; rw [if_pos h]
theorem bl_nonneg (x : Int) : 0 <= bl x := by unfold bl; split <;> omega
theorem bl_mono {x y : Int} (h : x <= y) : bl x <= bl y := by
 rcases Int.lt_or_le x 1 with h1 | h1
 ·rw [bl_zero (by omega)]; exact bl_nonneg y
 ·obtain ⟨k,e1,a1,a2⟩ := bl_spec h1
  obtain ⟨j,e2,c1,c2⟩ := bl_spec (x:=y) (by omega)
  rw [e1,e2]
  rcases Nat.lt_or_ge j k with hj | hj
  ·have := p2le (a:=j + 1) (b:=k) hj
   omega
  ·omega
theorem bl_le {x : Int} {n : Nat} (h : x < 2 ^ n) : bl x <= n := by
 rcases Int.lt_or_le x 1 with h1 | h1
 ·rw [bl_zero (by omega)]; omega
 ·obtain ⟨k,e1,a1,a2⟩ := bl_spec h1
  rcases Nat.lt_or_ge k n with hj | hj
  ·omega
  ·have := p2le (a:=n) (b:=k) hj; omega
theorem bl_shift {x : Int} (s : Nat) (h : 1 <= x / 2 ^ s) : bl x = s + bl (x / 2 ^ s) := by
 obtain ⟨k,e1,a1,a2⟩ := bl_spec h
 have hp := p2pos s
 have h1 := Int.ediv_mul_le x (show (2 : Int) ^ s ≠ 0 by omega)
 have h2 := Int.lt_ediv_add_one_mul_self x hp
 have h3 : (2 : Int) ^ k * 2 ^ s <= x / 2 ^ s * 2 ^ s := Int.mul_le_mul_of_nonneg_right a1 (by omega)
 have h4 : (x / 2 ^ s + 1) * 2 ^ s <= 2 ^ (k + 1) * 2 ^ s := Int.mul_le_mul_of_nonneg_right (by omega) (by omega)
 rw [<- Int.pow_add] at h3 h4
 rw [e1,bl_of (k:=k + s) (by omega) (by rw [show k + s + 1 = k + 1 + s by omega]; omega)]
 omega
def tab8 : List Int := [0,1,2,2,3,3,3,3,4,4,4,4,4,4,4,4,5,5,5,5,5,5,5,5,5,5,5,5,5,5,5,5,6,6,6,6,6,6,6,6,6,6,6,6,6,6,6,6,6,6,6,6,6,6,6,6,6,6,6,6,6,6,6,6,7,7,7,7,7,7,7,7,7,7,7,7,7,7,7,7,7,7,7,7,7,7,7,7,7,7,7,7,7,7,7,7,7,7,7,7,7,7,7,7,7,7,7,7,7,7,7,7,7,7,7,7,7,7,7,7,7,7,7,7,7,7,7,7,8,8,8,8,8,8,8,8,8,8,8,8,8,8,8,8,8,8,8,8,8,8,8,8,8,8,8,8,8,8,8,8,8,8,8,8,8,8,8,8,8,8,8,8,8,8,8,8,8,8,8,8,8,8,8,8,8,8,8,8,8,8,8,8,8,8,8,8,8,8,8,8,8,8,8,8,8,8,8,8,8,8,8,8,8,8,8,8,8,8,8,8,8,8,8,8,8,8,8,8,8,8,8,8,8,8,8,8,8,8,8,8,8,8,8,8,8,8,8,8,8,8,8,8,8,8,8,8]
theorem tab8_all : ∀ y : Fin 256,tab8.getD y.val 0 = (if y.val = 0 then 0 else (y.val.log2 : Int) + 1) := by decide +kernel
theorem tab8_get {y : Int} (h0 : 0 <= y) (h1 : y < 256) : tab8.getD y.toNat 0 = bl y := by
 have := tab8_all ⟨y.toNat,by omega⟩
 simp only at this
 rw [this]
 unfold bl
 by_cases h : y <= 0
 ·rw [if_pos (by omega),if_pos h]
 ·rw [if_neg (by omega),if_neg h]
theorem p32 : (2 : Int) ^ min (Int.toNat (32 : Int)) IntKind.u64.bits = 4294967296 := rfl
theorem fd256 (a : Int) : a.fdiv 256 = a / 256 := fdiv_ediv (by omega)
theorem fd65536 (a : Int) : a.fdiv 65536 = a / 65536 := fdiv_ediv (by omega)
theorem fd32 (a : Int) : a.fdiv 4294967296 = a / 4294967296 := fdiv_ediv (by omega)
theorem p16 : (2 : Int) ^ min (Int.toNat (16 : Int)) IntKind.u64.bits = 65536 := rfl
set_option maxRecDepth 100000 in
theorem len64_F {N : Nat} {x : Int} (h0 : 0 <= x) (h1 : x < 18446744073709551616) : Rc.len64.F N x = some (bl x) := by
 have hL : Rc.len64.F N x = Rc.len64.F N x := rfl
 unfold Rc.len64.F at hL ⊢
 generalize hT : ([(0 : Int),(1 : Int),(2 : Int),(2 : Int),(3 : Int),(3 : Int),(3 : Int),(3 : Int),(4 : Int),(4 : Int),(4 : Int),(4 : Int),(4 : Int),(4 : Int),(4 : Int),(4 : Int),(5 : Int),(5 : Int),(5 : Int),(5 : Int),(5 : Int),(5 : Int),(5 : Int),(5 : Int),(5 : Int),(5 : Int),(5 : Int),(5 : Int),(5 : Int),(5 : Int),(5 : Int),(5 : Int),(6 : Int),(6 : Int),(6 : Int),(6 : Int),(6 : Int),(6 : Int),(6 : Int),(6 : Int),(6 : Int),(6 : Int),(6 : Int),(6 : Int),(6 : Int),(6 : Int),(6 : Int),(6 : Int),(6 : Int),(6 : Int),(6 : Int),(6 : Int),(6 : Int),(6 : Int),(6 : Int),(6 : Int),(6 : Int),(6 : Int),(6 : Int),(6 : Int),(6 : Int),(6 : Int),(6 : Int),(6 : Int),(7 : Int),(7 : Int),(7 : Int),(7 : Int),(7 : Int),(7 : Int),(7 : Int),(7 : Int),(7 : Int),(7 : Int),(7 : Int),(7 : Int),(7 : Int),(7 : Int),(7 : Int),(7 : Int),(7 : Int),(7 : Int),(7 : Int),(7 : Int),(7 : Int),(7 : Int),(7 : Int),(7 : Int),(7 : Int),(7 : Int),(7 : Int),(7 : Int),(7 : Int),(7 : Int),(7 : Int),(7 : Int),(7 : Int),(7 : Int),(7 : Int),(7 : Int),(7 : Int),(7 : Int),(7 : Int),(7 : Int),(7 : Int),(7 : Int),(7 : Int),(7 : Int),(7 : Int),(7 : Int),(7 : Int),(7 : Int),(7 : Int),(7 : Int),(7 : Int),(7 : Int),(7 : Int),(7 : Int),(7 : Int),(7 : Int),(7 : Int),(7 : Int),(7 : Int),(7 : Int),(7 : Int),(7 : Int),(7 : Int),(7 : Int),(8 : Int),(8 : Int),(8 : Int),(8 : Int),(8 : Int),(8 : Int),(8 : Int),(8 : Int),(8 : Int),(8 : Int),(8 : Int),(8 : Int),(8 : Int),(8 : Int),(8 : Int),(8 : Int),(8 : Int),(8 : Int),(8 : Int),(8 : Int),(8 : Int),(8 : Int),(8 : Int),(8 : Int),(8 : Int),(8 : Int),(8 : Int),(8 : Int),(8 : Int),(8 : Int),(8 : Int),(8 : Int),(8 : Int),(8 : Int),(8 : Int),(8 : Int),(8 : Int),(8 : Int),(8 : Int),(8 : Int),(8 : Int),(8 : Int),(8 : Int),(8 : Int),(8 : Int),(8 : Int),(8 : Int),(8 : Int),(8 : Int),(8 : Int),(8 : Int),(8 : Int),(8 : Int),(8 : Int),(8 : Int),(8 : Int),(8 : Int),(8 : Int),(8 : Int),(8 : Int),(8 : Int),(8 : Int),(8 : Int),(8 : Int),(8 : Int),(8 : Int),(8 : Int),(8 : Int),(8 : Int),(8 : Int),(8 : Int),(8 : Int),(8 : Int),(8 : Int),(8 : Int),(8 : Int),(8 : Int),(8 : Int),(8 : Int),(8 : Int),(8 : Int),(8 : Int),(8 : Int),(8 : Int),(8 : Int),(8 : Int),(8 : Int),(8 : Int),(8 : Int),(8 : Int),(8 : Int),(8 : Int),(8 : Int),(8 : Int),(8 : Int),(8 : Int),(8 : Int),(8 : Int),(8 : Int),(8 : Int),(8 : Int),(8 : Int),(8 : Int),(8 : Int),(8 : Int),(8 : Int),(8 : Int),(8 : Int),(8 : Int),(8 : Int),(8 : Int),(8 : Int),(8 : Int),(8 : Int),(8 : Int),(8 : Int),(8 : Int),(8 : Int),(8 : Int),(8 : Int),(8 : Int),(8 : Int),(8 : Int),(8 : Int),(8 : Int),(8 : Int),(8 : Int),(8 : Int)] : List Int) = T
 replace hT : T = tab8 := hT.symm
 subst hT
 simp only [p32,p16,p8,br_dec,ge_iff_le,fd256,fd65536,fd32]
 have sh : ∀ (s : Nat) (y : Int),x / 2 ^ s = y -> (s = 0 \/ 1 <= y) -> bl x = s + bl y := by
  intro s y hy hs
  subst hy
  rcases hs with rfl | hs
  ·simp
  ·exact bl_shift s hs
 have fin : ∀ (s : Nat) (y : Int),x / 2 ^ s = y -> (s = 0 \/ 1 <= y) -> 0 <= y -> y < 256 -> s <= 56 -> ∀ z : Int,z = s -> IntKind.i64.wrap (z + IntKind.i64.wrap (tab8.getD y.toNat 0)) = bl x := by
  intro s y hy hs hy0 hy1 hs2 z hz
  have b0 := bl_nonneg y
  have b1 := bl_le (n:=8) (x:=y) (by show y < 256; exact hy1)
  rw [tab8_get hy0 hy1,i64 (x:=bl y) (by omega) (by omega),i64 (by omega) (by omega),sh s y hy hs,hz]
 by_cases a1 : 4294967296 <= x
 ·rw [if_pos a1]
  by_cases a2 : 65536 <= x / 4294967296
  ·rw [if_pos a2]
   by_cases a3 : 256 <= x / 4294967296 / 65536
   ·rw [if_pos a3]
    refine (chk_pos (by rw [u8 (by omega) (by omega)]; omega) _).trans ?_
    rw [u8 (by omega) (by omega)]
    exact congrArg some (fin 56 _ (by show x / 72057594037927936 = _; omega) (Or.inr (by omega)) (by omega) (by omega) (by omega) _ rfl)
   ·rw [if_neg a3]
    refine (chk_pos (by rw [u8 (by omega) (by omega)]; omega) _).trans ?_
    rw [u8 (by omega) (by omega)]
    exact congrArg some (fin 48 _ (by show x / 281474976710656 = _; omega) (Or.inr (by omega)) (by omega) (by omega) (by omega) _ rfl)
  ·rw [if_neg a2]
   by_cases a3 : 256 <= x / 4294967296
   ·rw [if_pos a3]
    refine (chk_pos (by rw [u8 (by omega) (by omega)]; omega) _).trans ?_
    rw [u8 (by omega) (by omega)]
    exact congrArg some (fin 40 _ (by show x / 1099511627776 = _; omega) (Or.inr (by omega)) (by omega) (by omega) (by omega) _ rfl)
   ·rw [if_neg a3]
    refine (chk_pos (by rw [u8 (by omega) (by omega)]; omega) _).trans ?_
    rw [u8 (by omega) (by omega)]
    exact congrArg some (fin 32 _ (by show x / 4294967296 = _; omega) (Or.inr (by omega)) (by omega) (by omega) (by omega) _ rfl)
 ·rw [if_neg a1]
  by_cases a2 : 65536 <= x
  ·rw [if_pos a2]
   by_cases a3 : 256 <= x / 65536
   ·rw [if_pos a3]
    refine (chk_pos (by rw [u8 (by omega) (by omega)]; omega) _).trans ?_
    rw [u8 (by omega) (by omega)]
    exact congrArg some (fin 24 _ (by show x / 16777216 = _; omega) (Or.inr (by omega)) (by omega) (by omega) (by omega) _ rfl)
   ·rw [if_neg a3]
    refine (chk_pos (by rw [u8 (by omega) (by omega)]; omega) _).trans ?_
    rw [u8 (by omega) (by omega)]
    exact congrArg some (fin 16 _ (by show x / 65536 = _; omega) (Or.inr (by omega)) (by omega) (by omega) (by omega) _ rfl)
  ·rw [if_neg a2]
   by_cases a3 : 256 <= x
   ·rw [if_pos a3]
    refine (chk_pos (by rw [u8 (by omega) (by omega)]; omega) _).trans ?_
    rw [u8 (by omega) (by omega)]
    exact congrArg some (fin 8 _ (by show x / 256 = _; omega) (Or.inr (by omega)) (by omega) (by omega) (by omega) _ rfl)
   ·rw [if_neg a3]
    refine (chk_pos (by rw [u8 (by omega) (by omega)]; omega) _).trans ?_
    rw [u8 (by omega) (by omega)]
    exact congrArg some (fin 0 _ (by simp) (Or.inl rfl) (by omega) (by omega) (by omega) _ rfl)
theorem blen_F {N : Nat} {x : Int} (h0 : 0 <= x) (h1 : x < 18446744073709551616) : Rc.blen.F N x = some (bl x) := by
 unfold Rc.blen.F
 rw [len64_F h0 h1]
 rfl
theorem bl_half {x : Int} (h : 1 <= x) : bl x = bl (x / 2) + 1 := by
 by_cases h2 : 2 <= x
 ·have := bl_shift (x:=x) 1 (by show 1 <= x / 2; omega)
  rw [this]
  show ((1 : Nat) : Int) + bl (x / 2) = _
  omega
 ·have : x = 1 := by omega
  subst this
  decide
theorem rlen_loop {N : Nat} : ∀ (nn : Nat) (f : Nat) (a n : Int),a < 2 ^ f -> a <= 9223372036854775807 -> 0 <= n -> n + f <= 1000 -> f < nn -> Rc.rlen.loop2 N nn a n = some (n + bl a)
 | 0,f,a,n,_,_,_,_,h => by omega
 | nn + 1,f,a,n,h1,h2,h3,h4,h => by
  unfold Rc.rlen.loop2
  simp only [br_dec]
  by_cases ha : a > 0
  ·rw [if_pos ha,tdiv_ediv (by omega),i64 (x:=a / 2) (by omega) (by omega),i64 (x:=n + 1) (by omega) (by omega)]
   cases f with
   | zero => simp at h1; omega
   | succ f =>
    rw [Int.pow_succ] at h1
    rw [rlen_loop nn f (a / 2) (n + 1) (by omega) (by omega) (by omega) (by omega) (by omega),bl_half (x:=a) (by omega)]
    exact congrArg some (by omega : n + 1 + bl (a / 2) = n + (bl (a / 2) + 1))
  ·rw [if_neg ha,bl_zero (by omega)]
   exact congrArg some (by omega : n = n + 0)
theorem rlen_F {N : Nat} {a : Int} (h : a <= 9223372036854775807) (hN : 300 <= N) : Rc.rlen.F N a = some (bl a) := by
 unfold Rc.rlen.F
 rw [rlen_loop N 63 a 0 (by show a < 9223372036854775808; omega) h (by omega) (by omega) (by omega),obind_of]
 exact congrArg some (by omega : 0 + bl a = bl a)
section
variable {N : Nat} {val last front back window waiting count : Int} {bad : Bool} {b : List Int}
end
section
variable {N : Nat} {val last front back wait waiting count eq : Int} {bad : Bool} {b : List Int}
end
def Q.new0 (b : List Int) : Q := ⟨128,127 - nb b 0 / 2,nb b 0,1⟩
def Q.new (b : List Int) : Q := (Q.new0 b).on b
def cnew (b : List Int) : Int := 9 + 8 * (((Q.new b).m - 1 : Nat) : Int)
theorem Q.new0_pre {b : List Int} (hb : Bytes b) : (Q.new0 b).Pre := by
 obtain ⟨h1,h2⟩ := nb_range hb 0
 unfold Q.new0
 exact ⟨by simp only; omega,by simp only; omega,by simp only; omega,by simp only; omega,h1,h2⟩
theorem Q.new_ok {b : List Int} (hb : Bytes b) : (Q.new b).Ok := Q.on_ok hb (Q.new0_pre hb)
theorem clone8_F {N : Nat} {b : List Int} (hl : b.length < 140737488351233) : Rc.clone8.F2 N b = some b := by
 unfold Rc.clone8.F2
 rw [chk_pos (by omega)]
theorem new_F {N : Nat} {b : List Int} (hb : Bytes b) (hl : b.length < 140737488351233) (hN : 300 <= N) :
  Rc.new.F N b = some ((Q.new b).rng,(Q.new b).val,(Q.new b).last,fr b (Q.new b).m,0,0,0,cnew b,false,b) := by
 unfold Rc.new.F
 obtain ⟨h1,h2⟩ := nb_range hb 0
 have hn := next_F (N:=N) (rng:=128) (val:=0) (last:=0) (back:=0) (window:=0) (waiting:=0) (count:=9) (bad:=false) hb hl 0
 rw [show fr b 0 = 0 by simp [fr]] at hn
 rw [clone8_F hl,obind_of,hn,obind_of]
 simp only [p1]
 rw [fdiv_ediv (by omega),u64 (by omega) (by omega)]
 have := norm_F (N:=N) (back:=0) (window:=0) (waiting:=0) (count:=9) (bad:=false) hb hl (Q.new0_pre hb) (by omega) (by omega) (by omega)
 simp only [Q.new0] at this
 rw [this]
 rfl
end Go.Pl
/-
 Plain words of chapter 3, those that hang on no law (taken out of the texts of L3 by split.py).
 Conditions: none.
-/
namespace Go.Pl
open Go.Eng Go.Proofs
def icdfT (n : Int) : List Int :=
 if n = 0 then [192,96,0] else if n = 1 then [224,192,160,128,96,64,32,0] else
 if n = 2 then [252,247,240,230,214,190,150,106,66,42,26,16,10,6,4,2,0] else
 if n = 3 then [240,224,208,192,176,160,144,128,112,96,80,64,48,32,16,0] else
 if n = 4 then [253,244,222,170,86,34,12,3,0] else
 if n = 5 then [218,180,148,122,100,82,67,54,43,34,26,19,14,10,6,3,0] else
 if n = 6 then [205,163,128,97,70,44,20,0] else if n = 7 then [231,155,38,0] else
 if n = 8 then [192,128,64,0] else []
theorem good_of {t : List Int} (h : (1 <= t.length /\ t.length <= 256 /\ t.getD (t.length - 1) 0 = 0 /\ t.getD 0 0 < 256) /\ ∀ k,k < t.length -> 1 <= k -> t.getD k 0 < t.getD (k - 1) 0) : GoodT t :=
 ⟨h.1.1,h.1.2.1,h.1.2.2.1,h.1.2.2.2,fun k h1 h2 => h.2 k h2 h1⟩
theorem icdf_good {n : Int} (h0 : 0 <= n) (h1 : n <= 8) : GoodT (icdfT n) := by
 have : n = 0 \/ n = 1 \/ n = 2 \/ n = 3 \/ n = 4 \/ n = 5 \/ n = 6 \/ n = 7 \/ n = 8 := by omega
 rcases this with rfl | rfl | rfl | rfl | rfl | rfl | rfl | rfl | rfl <;> exact good_of (by decide)
theorem ct_range {b : List Int} {q q' : Q} (h : q.m <= q'.m /\ q'.m <= q.m + 4) (c : Int) : c <= ct c q q' /\ ct c q q' <= c + 32 := by
 unfold ct
 omega
def W.new : W := ⟨0,0,0⟩
theorem W.new_ok : W.new.Ok := ⟨by decide,by decide,by decide⟩
theorem Q.sy_m (b : List Int) (q : Q) (t : List Int) : q.m <= (q.sy b t).m /\ (q.sy b t).m <= q.m + 4 := Q.tk_m b q _ _ _
theorem Q.sy_ok {b : List Int} (hb : Bytes b) {q : Q} (h : q.Ok) {t : List Int} (g : GoodT t) : (q.sy b t).Ok := Q.tk_ok hb h (Q.sk_spec h g).2
theorem Q.new_rng (b : List Int) : (Q.new b).rng = 2147483648 /\ (Q.new b).m = 4 := by
 have : Q.new b = ((((Q.new0 b).step b).step b).step b) := rfl
 rw [this]
 exact ⟨rfl,rfl⟩
theorem cnew_eq (b : List Int) : cnew b = 1 + 8 * ((Q.new b).m : Int) := by
 have := (Q.new_rng b).2
 unfold cnew
 omega
def bitE (b : List Int) (p : Nat) : Int := (eb b (p / 8) / 2 ^ (p % 8)) % 2
theorem bitE_range (b : List Int) (p : Nat) : 0 <= bitE b p /\ bitE b p < 2 := by unfold bitE; omega
def bsum (b : List Int) (P : Nat) : Nat -> Int
 | 0 => 0
 | n + 1 => bsum b P n + bitE b (P + n) * 2 ^ n
theorem bsum_range (b : List Int) (P : Nat) : ∀ n,0 <= bsum b P n /\ bsum b P n < 2 ^ n
 | 0 => by simp [bsum]
 | n + 1 => by
  obtain ⟨h1,h2⟩ := bsum_range b P n
  obtain ⟨h3,h4⟩ := bitE_range b (P + n)
  have h5 := p2pos n
  have h6 : 0 <= bitE b (P + n) * 2 ^ n := Int.mul_nonneg h3 (by omega)
  have h7 : bitE b (P + n) * 2 ^ n <= 1 * 2 ^ n := Int.mul_le_mul_of_nonneg_right (by omega) (by omega)
  simp only [bsum,Int.pow_succ]
  omega
theorem bsum_split (b : List Int) (P a : Nat) : ∀ c,bsum b P (a + c) = bsum b P a + 2 ^ a * bsum b (P + a) c
 | 0 => by simp [bsum]
 | c + 1 => by
  rw [<- Nat.add_assoc]
  simp only [bsum]
  rw [bsum_split b P a c,Int.pow_add,Nat.add_assoc P a c,Int.mul_add,<- Int.mul_assoc (2 ^ a),Int.mul_comm (2 ^ a) (bitE b _),Int.mul_assoc (bitE b _),Int.add_assoc]
theorem bsum_byte {b : List Int} (hb : Bytes b) (k : Nat) : bsum b (8 * k) 8 = eb b k := by
 obtain ⟨h1,h2⟩ := eb_range hb k
 simp only [bsum,bitE]
 rw [show (8 * k + 0) / 8 = k by omega,show (8 * k + 1) / 8 = k by omega,show (8 * k + 2) / 8 = k by omega,show (8 * k + 3) / 8 = k by omega,show (8 * k + 4) / 8 = k by omega,show (8 * k + 5) / 8 = k by omega,show (8 * k + 6) / 8 = k by omega,show (8 * k + 7) / 8 = k by omega]
 rw [show (8 * k + 0) % 8 = 0 by omega,show (8 * k + 1) % 8 = 1 by omega,show (8 * k + 2) % 8 = 2 by omega,show (8 * k + 3) % 8 = 3 by omega,show (8 * k + 4) % 8 = 4 by omega,show (8 * k + 5) % 8 = 5 by omega,show (8 * k + 6) % 8 = 6 by omega,show (8 * k + 7) % 8 = 7 by omega]
 generalize eb b k = x at h1 h2 ⊢
 have e0 : (2 : Int) ^ 0 = 1 := rfl
 have e1 : (2 : Int) ^ 1 = 2 := rfl
 have e2 : (2 : Int) ^ 2 = 4 := rfl
 have e3 : (2 : Int) ^ 3 = 8 := rfl
 have e4 : (2 : Int) ^ 4 = 16 := rfl
 have e5 : (2 : Int) ^ 5 = 32 := rfl
 have e6 : (2 : Int) ^ 6 = 64 := rfl
 have e7 : (2 : Int) ^ 7 = 128 := rfl
 rw [e0,e1,e2,e3,e4,e5,e6,e7]
 omega
structure W.At (b : List Int) (w : W) (P : Nat) : Prop where
 a : 8 * w.k = P + w.wai
 b : w.win = bsum b P w.wai
theorem W.At.step {b : List Int} (hb : Bytes b) {w : W} {P : Nat} (h : w.At b P) : (w.step b).At b P := by
 refine ⟨by have := h.a; simp only [W.step]; omega,?_⟩
 simp only [W.step]
 rw [bsum_split,h.b,show P + w.wai = 8 * w.k by have := h.a; omega,bsum_byte hb,Int.mul_comm]
theorem W.At.fill {b : List Int} (hb : Bytes b) {P n : Nat} : ∀ (f : Nat) (w : W),w.At b P -> (W.fill b n f w).At b P
 | 0,w,h => h
 | f + 1,w,h => by
  simp only [W.fill]
  split
  ·exact W.At.fill hb f _ (h.step hb)
  ·exact h
theorem W.At.next {b : List Int} (hb : Bytes b) {w : W} {P n : Nat} (h : w.At b P) (hn : n <= 24) : w.val b n = bsum b P n /\ (w.next b n).At b (P + n) := by
 have hf := W.At.fill (n:=n) hb 4 w h
 have h4 := W.fill_n (b:=b) (n:=n) 4 w (by omega)
 obtain ⟨r0,r1⟩ := bsum_range b P n
 have hp := p2pos n
 have e : (W.fill b n 4 w).win = bsum b P n + 2 ^ n * bsum b (P + n) ((W.fill b n 4 w).wai - n) := by
  rw [hf.b,<- bsum_split]
  congr 1
  omega
 refine ⟨?_,⟨?_,?_⟩⟩
 ·unfold W.val W.at
  rw [e,Int.add_mul_emod_self_left,Int.emod_eq_of_lt r0 r1]
 ·have := hf.a
  simp only [W.next,W.at]
  omega
 ·simp only [W.next,W.at]
  rw [e,Int.add_mul_ediv_left _ _ (by omega),Int.ediv_eq_zero_of_lt r0 r1,Int.zero_add]
end Go.Pl
/-
 Plain words of chapter 3, those that hang on no law (taken out of the texts of L3 by split.py).
 Conditions: none.
-/
namespace Go.Pl
open Go.Eng Go.Proofs
def ub (ft : Int) : Nat := (bl (ft - 1) - 8).toNat
def uf (ft : Int) : Int := (ft - 1) / 2 ^ ub ft + 1
theorem ub_range {ft : Int} (h0 : 256 < ft) (h1 : ft <= 4294967295) : 1 <= ub ft /\ ub ft <= 24 /\ bl (ft - 1) = ub ft + 8 /\ 1 <= uf ft /\ uf ft <= 256 := by
 have a1 := bl_le (n:=32) (x:=ft - 1) (by show ft - 1 < 4294967296; omega)
 have a2 := bl_mono (x:=256) (y:=ft - 1) (by omega)
 have e : bl 256 = 9 := by decide +kernel
 obtain ⟨k,k1,k2,k3⟩ := bl_spec (x:=ft - 1) (by omega)
 have hub : ub ft = k - 7 := by unfold ub; omega
 have hp := p2pos (ub ft)
 refine ⟨by unfold ub; omega,by unfold ub; omega,by unfold ub; omega,?_,?_⟩
 ·unfold uf
  have : 0 <= (ft - 1) / 2 ^ ub ft := Int.ediv_nonneg (by omega) (by omega)
  omega
 ·unfold uf
  have : (ft - 1) / 2 ^ ub ft < 256 := by
   rw [Int.ediv_lt_iff_lt_mul hp,show (256 : Int) = 2 ^ 8 from rfl,<- Int.pow_add,hub,show 8 + (k - 7) = k + 1 by omega]
   exact k3
  omega
theorem ch_takes {q : Q} (h : q.Ok) {ft : Int} (f0 : 1 <= ft) (f1 : ft <= 65536) : Takes q (q.ch ft) (q.ch ft + 1) ft := by
 obtain ⟨c0,c1⟩ := Q.ch_range h f0 f1
 exact ⟨f0,f1,c0,Int.le_refl _,by omega,by omega⟩
def Q.un (b : List Int) (q : Q) (ft : Int) : Q := if ft <= 256 then q.tk b (q.ch ft) (q.ch ft + 1) ft else q.tk b (q.ch (uf ft)) (q.ch (uf ft) + 1) (uf ft)
def uv (b : List Int) (q : Q) (w : W) (ft : Int) : Int := q.ch (uf ft) * 2 ^ ub ft + w.val b (ub ft)
theorem Q.un_ok {b : List Int} (hb : Bytes b) {q : Q} (h : q.Ok) {ft : Int} (h0 : 1 < ft) (h1 : ft <= 4294967295) : (q.un b ft).Ok := by
 unfold Q.un
 split
 ·exact Q.tk_ok hb h (ch_takes h (by omega) (by omega))
 ·obtain ⟨_,_,_,u0,u1⟩ := ub_range (ft:=ft) (by omega) h1
  exact Q.tk_ok hb h (ch_takes h u0 (by omega))
theorem Q.un_m (b : List Int) (q : Q) (ft : Int) : q.m <= (q.un b ft).m /\ (q.un b ft).m <= q.m + 4 := by
 unfold Q.un
 split <;> exact Q.tk_m b q _ _ _
theorem uv_range {b : List Int} {q : Q} (h : q.Ok) (w : W) {ft : Int} (h0 : 256 < ft) (h1 : ft <= 4294967295) : 0 <= uv b q w ft /\ uv b q w ft < 4294967296 /\ 0 <= q.ch (uf ft) * 2 ^ ub ft /\ q.ch (uf ft) * 2 ^ ub ft < 4294967296 := by
 obtain ⟨b0,b1,_,u0,u1⟩ := ub_range h0 h1
 obtain ⟨c0,c1⟩ := Q.ch_range h u0 (by omega)
 obtain ⟨v0,v1⟩ := W.val_range (b:=b) w (ub ft)
 have hp := p2pos (ub ft)
 have hp2 : (2 : Int) ^ ub ft <= 16777216 := p2le (b:=24) b1
 have k1 : 0 <= q.ch (uf ft) * 2 ^ ub ft := Int.mul_nonneg c0 (by omega)
 have k2 : q.ch (uf ft) * 2 ^ ub ft <= 255 * 2 ^ ub ft := Int.mul_le_mul_of_nonneg_right (by omega) (by omega)
 unfold uv
 omega
section
variable {N : Nat} {count : Int} {bad : Bool} {b : List Int}
theorem uint_out {back window waiting rng val last front : Int} {ft : Int} (h : ft <= 1 \/ ft > 4294967295) : Rc.uint.F N ft rng val last front back window waiting count bad b = some (0,rng,val,last,front,back,window,waiting,count,bad) := by
 unfold Rc.uint.F
 simp only [br_dec,chkL_same]
 by_cases h0 : ft <= 1
 ·rw [if_pos h0]
 ·rw [if_neg h0,if_pos (by omega)]
theorem uint_small {back window waiting : Int} (hb : Bytes b) (hl : b.length < 140737488351233) {q : Q} (h : q.Ok) {ft : Int} (h0 : 1 < ft) (h1 : ft <= 256) (hc0 : 0 <= count) (hc1 : count < 1099511627776) (hN : 300 <= N) :
  Rc.uint.F N ft q.rng q.val q.last (fr b q.m) back window waiting count bad b =
   some (q.ch ft,(q.un b ft).rng,(q.un b ft).val,(q.un b ft).last,fr b (q.un b ft).m,back,window,waiting,ct count q (q.un b ft),bad) := by
 unfold Rc.uint.F
 simp only [br_dec,chkL_same]
 obtain ⟨c0,c1⟩ := Q.ch_range h (ft:=ft) (by omega) (by omega)
 rw [if_neg (by omega),if_neg (by omega),if_pos h1,u64 (x:=ft) (by omega) (by omega),choose_F h (by omega) (by omega),obind_of,u64 (x:=q.ch ft + 1) (by omega) (by omega),take_F hb hl h (ch_takes h (by omega) (by omega)) hc0 hc1 (by omega),obind_of,i64 (x:=q.ch ft) (by omega) (by omega)]
 simp only [Q.un,if_pos h1]
theorem uint_great (hb : Bytes b) (hl : b.length < 140737488351233) {q : Q} (h : q.Ok) {w : W} (hw : w.Ok) {ft : Int} (h0 : 256 < ft) (h1 : ft <= 4294967295) (hc0 : 0 <= count) (hc1 : count < 1099511620000) (hN : 300 <= N) :
  Rc.uint.F N ft q.rng q.val q.last (fr b q.m) (fr b w.k) w.win (w.wai : Int) count bad b =
   some (if uv b q w ft >= ft then ft - 1 else uv b q w ft,(q.un b ft).rng,(q.un b ft).val,(q.un b ft).last,fr b (q.un b ft).m,fr b (w.next b (ub ft)).k,(w.next b (ub ft)).win,((w.next b (ub ft)).wai : Int),
    ct count q (q.un b ft) + ub ft,bad || decide (uv b q w ft >= ft)) := by
 unfold Rc.uint.F
 simp only [br_dec,chkL_same]
 obtain ⟨b0,b1,b2,u0,u1⟩ := ub_range h0 h1
 obtain ⟨c0,c1⟩ := Q.ch_range h u0 (by omega)
 obtain ⟨v0,v1,v2,v3⟩ := uv_range (b:=b) h w h0 h1
 have eun : q.un b ft = q.tk b (q.ch (uf ft)) (q.ch (uf ft) + 1) (uf ft) := by unfold Q.un; rw [if_neg (by omega)]
 have hm := Q.un_m b q ft
 have hcr := ct_range (b:=b) hm count
 rw [if_neg (by omega),if_neg (by omega),if_neg (by omega),i64 (x:=ft - 1) (by omega) (by omega),u64 (x:=ft - 1) (by omega) (by omega),blen_F (by omega) (by omega),obind_of,b2,i64 (x:=(ub ft : Int) + 8 - 8) (by omega) (by omega),
  show (ub ft : Int) + 8 - 8 = ub ft by omega,chk_pos (by omega),Int.toNat_natCast,bits_i64,show min (ub ft) 64 = ub ft by omega,fdiv_ediv (by have := p2pos (ub ft); omega)]
 have euf : (ft - 1) / 2 ^ ub ft + 1 = uf ft := rfl
 rw [euf,i64 (x:=uf ft) (by omega) (by omega),u64 (x:=uf ft) (by omega) (by omega),choose_F h u0 (by omega),obind_of,u64 (x:=q.ch (uf ft) + 1) (by omega) (by omega),take_F hb hl h (ch_takes h u0 (by omega)) hc0 (by omega) (by omega),obind_of,<- eun]
 simp only
 rw [chk_pos (by omega),bits_F hb hl hw (ub ft) (by omega) (by omega) hN,if_pos (by omega),obind_of]
 simp only [Int.toNat_natCast]
 rw [i64 (x:=q.ch (uf ft)) (by omega) (by omega),i64 (x:=q.ch (uf ft) * 2 ^ ub ft) (by omega) (by omega),show q.ch (uf ft) * 2 ^ ub ft + w.val b (ub ft) = uv b q w ft from rfl,i64 (x:=uv b q w ft) (by omega) (by omega)]
 by_cases hv : uv b q w ft >= ft
 ·rw [if_pos hv,if_pos hv]
  simp [hv]
 ·rw [if_neg hv,if_neg hv]
  simp [hv]
end
end Go.Pl
/-
 Chapter 3 in plain words: numbers that are small as a rule (rc's); the reference's flags, bits, numbers.
 Conditions: none.
-/
namespace Go.Pl
open Go.Eng Go.Proofs
structure Lp where
 l : Int
 v : Int
 s : Int
def Lp.step (decay : Int) (p : Lp) : Lp := ⟨p.l + 2 * p.s,p.v + 1,(2 * p.s - 2) * decay / 32768 + 1⟩
def Lp.run (decay f : Int) : Nat -> Lp -> Lp
 | 0,p => p
 | n + 1,p => if 1 < p.s /\ p.l + 2 * p.s <= f then Lp.run decay f n (p.step decay) else p
structure Lp.Ok (f : Int) (p : Lp) : Prop where
 l0 : 0 <= p.l
 l1 : p.l <= f
 s0 : 1 <= p.s
 s1 : p.s <= 20000
 v0 : 0 <= p.v
 v1 : p.v <= p.l + 1
theorem Lp.Ok.step {decay f : Int} (d0 : 0 <= decay) (d1 : decay <= 16000) {p : Lp} (h : p.Ok f) (hs : 1 < p.s) (hf : p.l + 2 * p.s <= f) : (p.step decay).Ok f /\ 0 <= (2 * p.s - 2) * decay /\ (2 * p.s - 2) * decay <= (2 * p.s - 2) * 16000 := by
 obtain ⟨h1,h2,h3,h4,h5,h6⟩ := h
 have k1 : 0 <= (2 * p.s - 2) * decay := Int.mul_nonneg (by omega) d0
 have k2 : (2 * p.s - 2) * decay <= (2 * p.s - 2) * 16000 := Int.mul_le_mul_of_nonneg_left d1 (by omega)
 refine ⟨⟨by simp only [Lp.step]; omega,by simp only [Lp.step]; omega,by simp only [Lp.step]; omega,by simp only [Lp.step]; omega,by simp only [Lp.step]; omega,by simp only [Lp.step]; omega⟩,k1,k2⟩
def Lp.start (fs decay : Int) : Lp := ⟨fs,1,(32736 - fs) * (16384 - decay) / 32768 + 1⟩
def lapEnd (f : Int) (p : Lp) : Lp :=
 let p2 : Lp := if p.s <= 1 then ⟨p.l + 2 * ((f - p.l) / 2),p.v + (f - p.l) / 2,p.s⟩ else p
 if f < p2.l + p2.s then ⟨p2.l,-p2.v,p2.s⟩ else ⟨p2.l + p2.s,p2.v,p2.s⟩
def lapAt (f fs decay : Int) : Lp := if f >= fs then lapEnd f (Lp.run decay f 8192 (Lp.start fs decay)) else ⟨0,0,fs⟩
end Go.Pl
/-
 Chapter 3 in plain words: Laplace's numbers in the code, and the reference's flags, bits, numbers.
 Conditions: none.
-/
namespace Go.Pl
open Go.Eng Go.Proofs
def lapH (p : Lp) : Int := min (p.l + p.s) 32768
section
variable {N : Nat} {back window waiting count : Int} {bad : Bool} {b : List Int}
end
section
variable {N : Nat} {back wait waiting count eq : Int} {bad : Bool} {b : List Int}
theorem rbits_loop {rng val last front : Int} (hb : Bytes b) (hl : b.length < 140737488351233) {n : Nat} (hn : n <= 24) : ∀ (nn f : Nat) (w : W),w.Ok -> n <= w.wai + 8 * f -> f < nn ->
  Rc.rbits.loop3 N nn (n : Int) rng val last front count eq bad b (fr b w.k) w.win (w.wai : Int) = some (fr b (W.fill b n f w).k,(W.fill b n f w).win,((W.fill b n f w).wai : Int))
 | 0,f,w,_,_,h => by omega
 | nn + 1,f,w,h,hf,h0 => by
  unfold Rc.rbits.loop3
  simp only [br_dec,chkI_same,chkB_same,chkL_same]
  by_cases hw : w.wai < n
  ·rw [if_pos (by omega)]
   obtain ⟨x0,x1⟩ := eb_range hb w.k
   cases f with
   | zero => omega
   | succ f =>
    have hc := h.c
    have ih := rbits_loop (rng:=rng) (val:=val) (last:=last) (front:=front) hb hl hn nn f (w.step b) (h.step hb (by omega)) (by simp only [W.step]; omega) (by omega)
    simp only [W.fill,if_pos hw]
    by_cases hin : w.k < b.length
    ·have ef : fr b w.k = (w.k : Int) := by unfold fr; omega
     have ef2 : fr b (w.k + 1) = (w.k : Int) + 1 := by unfold fr; omega
     have ex : b.getD (b.length - 1 - w.k) 0 = eb b w.k := by unfold eb; rw [if_pos hin]
     rw [ef,if_pos (by omega),i64 (x:=(w.k : Int) + 1) (by omega) (by omega),i64 (x:=(b.length : Int) - _) (by omega) (by omega),chk_pos (by omega),u64 (x:=(w.wai : Int)) (by omega) (by omega),chk_pos (by omega),
      show ((b.length : Int) - ((w.k : Int) + 1)).toNat = b.length - 1 - w.k by omega,ex,u64 (x:=eb b w.k) (by omega) (by omega),Int.toNat_natCast,or_win h.a h.b (by omega) x0 x1,i64 (x:=(w.wai : Int) + 8) (by omega) (by omega)]
     simp only [W.step] at ih ⊢
     rw [ef2] at ih
     exact ih
    ·have ef : fr b w.k = (b.length : Int) := by unfold fr; omega
     have ef2 : fr b (w.k + 1) = (b.length : Int) := by unfold fr; omega
     have ex : eb b w.k = 0 := by unfold eb; rw [if_neg hin]
     rw [ef,if_neg (by omega),u64 (x:=(w.wai : Int)) (by omega) (by omega),chk_pos (by omega),Int.toNat_natCast,or_win h.a h.b (by omega) (by omega) (by omega),i64 (x:=(w.wai : Int) + 8) (by omega) (by omega)]
     simp only [W.step] at ih ⊢
     rw [ef2,ex] at ih
     rw [ex]
     exact ih
  ·rw [if_neg (by omega)]
   have : W.fill b n f w = w := by cases f with
    | zero => rfl
    | succ f => simp only [W.fill,if_neg hw]
   rw [this]
theorem rbits_F {rng val last front : Int} (hb : Bytes b) (hl : b.length < 140737488351233) {w : W} (h : w.Ok) (n : Int) (hc0 : 0 <= count) (hc1 : count < 1099511627776) (hN : 300 <= N) :
  Rc.rbits.F N n rng val last front (fr b w.k) w.win (w.wai : Int) count eq bad b =
   some (if 0 <= n /\ n <= 24 then (w.val b n.toNat,fr b (w.next b n.toNat).k,(w.next b n.toNat).win,((w.next b n.toNat).wai : Int),count + n) else (0,fr b w.k,w.win,(w.wai : Int),count)) := by
 unfold Rc.rbits.F
 simp only [br_dec,chkI_same,chkB_same,chkL_same]
 by_cases n0 : n < 0
 ·rw [if_pos n0,if_neg (by omega)]
 rw [if_neg n0]
 by_cases n1 : n > 24
 ·rw [if_pos n1,if_neg (by omega)]
 rw [if_neg n1,if_pos (show 0 <= n /\ n <= 24 by omega)]
 obtain ⟨k,rfl⟩ : ∃ k : Nat,n = k := ⟨n.toNat,by omega⟩
 have hk : k <= 24 := by omega
 rw [rbits_loop hb hl hk N 4 w h (by omega) (by omega),obind_of]
 obtain ⟨h1,h2,h3⟩ := W.fill_ok hb hk 4 w h
 have h4 := W.fill_n (b:=b) (n:=k) 4 w (by omega)
 have h5 : (2 : Int) ^ (W.fill b k 4 w).wai <= 2147483648 := p2le (b:=31) h3
 rw [u64 (x:=(k : Int)) (by omega) (by omega),chk_pos (by omega),chk_pos (by omega)]
 simp only [Int.toNat_natCast]
 rw [mask_val h1 (by omega) hk,i64 (x:=count + k) (by omega) (by omega),i64 (by omega) (by omega),bits_u64,show min k 64 = k by omega,fdiv_ediv (by have := p2pos k; omega)]
 simp only [W.val,W.next,W.at]
 congr 5
 omega
theorem ruint_small (hb : Bytes b) (hl : b.length < 140737488351233) {q : Q} (h : q.Ok) {ft : Int} (h0 : 1 < ft) (h1 : ft <= 256) (hc0 : 0 <= count) (hc1 : count < 1099511627776) (hN : 300 <= N) :
  ∃ eq',Rc.ruint.F N ft q.rng q.val q.last (fr b q.m) back wait waiting count eq bad b =
   some (q.ch ft,(q.un b ft).rng,(q.un b ft).val,(q.un b ft).last,fr b (q.un b ft).m,back,wait,waiting,ct count q (q.un b ft),eq',bad) := by
 refine ⟨q.rng / ft,?_⟩
 unfold Rc.ruint.F
 simp only [br_dec,chkL_same,br_beq]
 obtain ⟨c0,c1⟩ := Q.ch_range h (ft:=ft) (by omega) (by omega)
 rw [if_neg (by omega),if_neg (by omega),if_neg (by omega),if_pos h1,u64 (x:=ft) (by omega) (by omega),rchoose_F h (by omega) (by omega),obind_of]
 simp only
 rw [u64 (x:=q.ch ft + 1) (by omega) (by omega),rtake_F hb hl h (ch_takes h (by omega) (by omega)) hc0 hc1 (by omega),obind_of,i64 (x:=q.ch ft) (by omega) (by omega)]
 simp only [Q.un,if_pos h1]
theorem ruint_great (hb : Bytes b) (hl : b.length < 140737488351233) {q : Q} (h : q.Ok) {w : W} (hw : w.Ok) {ft : Int} (h0 : 256 < ft) (h1 : ft <= 4294967295) (hc0 : 0 <= count) (hc1 : count < 1099511620000) (hN : 300 <= N) :
  ∃ eq',Rc.ruint.F N ft q.rng q.val q.last (fr b q.m) (fr b w.k) w.win (w.wai : Int) count eq bad b =
   some (if uv b q w ft >= ft then ft - 1 else uv b q w ft,(q.un b ft).rng,(q.un b ft).val,(q.un b ft).last,fr b (q.un b ft).m,fr b (w.next b (ub ft)).k,(w.next b (ub ft)).win,((w.next b (ub ft)).wai : Int),
    ct count q (q.un b ft) + ub ft,eq',bad || decide (uv b q w ft >= ft)) := by
 refine ⟨q.rng / uf ft,?_⟩
 unfold Rc.ruint.F
 simp only [br_dec,chkL_same,br_beq]
 obtain ⟨b0,b1,b2,u0,u1⟩ := ub_range h0 h1
 obtain ⟨c0,c1⟩ := Q.ch_range h u0 (by omega)
 obtain ⟨v0,v1,v2,v3⟩ := uv_range (b:=b) h w h0 h1
 obtain ⟨wv0,wv1⟩ := W.val_range (b:=b) w (ub ft)
 have eun : q.un b ft = q.tk b (q.ch (uf ft)) (q.ch (uf ft) + 1) (uf ft) := by unfold Q.un; rw [if_neg (by omega)]
 have hm := Q.un_m b q ft
 have hcr := ct_range (b:=b) hm count
 rw [if_neg (by omega),if_neg (by omega),if_neg (by omega),if_neg (by omega),i64 (x:=ft - 1) (by omega) (by omega),rlen_F (by omega) hN,obind_of,b2,i64 (x:=(ub ft : Int) + 8 - 8) (by omega) (by omega),
  show (ub ft : Int) + 8 - 8 = ub ft by omega,u64 (x:=(ub ft : Int)) (by omega) (by omega),chk_pos (by omega),Int.toNat_natCast,bits_i64,show min (ub ft) 64 = ub ft by omega,fdiv_ediv (by have := p2pos (ub ft); omega)]
 have euf : (ft - 1) / 2 ^ ub ft + 1 = uf ft := rfl
 rw [euf,i64 (x:=uf ft) (by omega) (by omega),u64 (x:=uf ft) (by omega) (by omega),rchoose_F h u0 (by omega),obind_of]
 simp only
 rw [u64 (x:=q.ch (uf ft) + 1) (by omega) (by omega),rtake_F hb hl h (ch_takes h u0 (by omega)) hc0 (by omega) (by omega),obind_of,<- eun]
 simp only
 rw [chk_pos (by omega),rbits_F hb hl hw (ub ft) (by omega) (by omega) hN,if_pos (by omega),obind_of]
 simp only [Int.toNat_natCast]
 rw [i64 (x:=q.ch (uf ft)) (by omega) (by omega),i64 (x:=q.ch (uf ft) * 2 ^ ub ft) (by omega) (by omega),or_add c0 (by show q.ch (uf ft) * 2 ^ ub ft < 18446744073709551616; omega) wv0 wv1 (by omega),
  show q.ch (uf ft) * 2 ^ ub ft + w.val b (ub ft) = uv b q w ft from rfl,i64 (x:=uv b q w ft) (by omega) (by omega)]
 by_cases hv : uv b q w ft >= ft
 ·rw [if_pos hv,if_pos hv]
  simp [hv]
 ·rw [if_neg hv,if_neg hv]
  simp [hv]
end
end Go.Pl
/-
 Chapter 4 in plain words: bytes of numbers, the range encoder's register as whole numbers, what is written is read.
 Conditions: none.
-/
namespace Go.Pl
open Go.Eng
def tb : Nat -> Int -> List Int
 | 0,_ => []
 | k + 1,n => tb k (n / 256) ++ [n % 256]
def cp (b : List Int) : Nat -> Int
 | 0 => 0
 | m + 1 => cp b m * 256 + nb b m
def le : Nat -> Int -> List Int
 | 0,_ => []
 | k + 1,n => n % 256 :: le k (n / 256)
structure E where
 k : Nat
 low : Int
 rng : Int
 r : Nat
 raw : Int
def E.told (e : E) : List Int := tb e.k (e.low / 2147483648)
def E.val (e : E) : Int := e.low % 2147483648
def E.bits (e : E) : List Int := le ((e.r + 7) / 8) e.raw
def E.count (e : E) : Int := 33 + 8 * (e.k : Int) + (e.r : Int)
structure E.Pre (e : E) : Prop where
 r0 : 1 <= e.rng
 r1 : e.rng <= 2147483648
 l0 : 0 <= e.low
 l1 : e.low + e.rng <= 2147483648 * 256 ^ e.k
 w0 : 0 <= e.raw
 w1 : e.raw < 2 ^ e.r
structure E.Ok (e : E) : Prop extends E.Pre e where
 g : 8388608 < e.rng
def E.step (e : E) : E := ⟨e.k + 1,e.low * 256,e.rng * 256,e.r,e.raw⟩
def E.norm : Nat -> E -> E
 | 0,e => e
 | n + 1,e => if e.rng <= 8388608 then E.norm n e.step else e
def E.on (e : E) : E := E.norm 4 e
theorem E.Pre.step {e : E} (h : e.Pre) (hr : e.rng <= 8388608) : e.step.Pre := by
 obtain ⟨h1,h2,h3,h4,h5,h6⟩ := h
 refine ⟨by simp only [E.step]; omega,by simp only [E.step]; omega,by simp only [E.step]; omega,?_,h5,h6⟩
 simp only [E.step,Int.pow_succ]
 omega
theorem E.norm_ok : ∀ (n : Nat) (e : E),e.Pre -> 8388608 < e.rng * 256 ^ n -> (E.norm n e).Ok
 | 0,e,h,hn => ⟨h,by simpa [E.norm] using hn⟩
 | n + 1,e,h,hn => by
  simp only [E.norm]
  split
  ·rename_i hr
   refine E.norm_ok n _ (h.step hr) ?_
   simp only [E.step]
   rw [Int.pow_succ] at hn
   rw [Int.mul_assoc,Int.mul_comm 256]
   exact hn
  ·exact ⟨h,by omega⟩
theorem E.on_ok {e : E} (h : e.Pre) : e.on.Ok := E.norm_ok 4 e h (by have := h.r0; omega)
theorem E.norm_stop {e : E} (h : 8388608 < e.rng) : ∀ n,E.norm n e = e
 | 0 => rfl
 | n + 1 => by simp only [E.norm]; rw [if_neg (by omega)]
theorem E.norm_same : ∀ (n : Nat) (e : E),(E.norm n e).r = e.r /\ (E.norm n e).raw = e.raw /\ e.k <= (E.norm n e).k /\ (E.norm n e).k <= e.k + n
 | 0,e => by simp [E.norm]
 | n + 1,e => by
  simp only [E.norm]
  split
  ·have := E.norm_same n e.step
   simp only [E.step] at this ⊢
   omega
  ·simp
def E.tk0 (e : E) (fl fh ft : Int) : E :=
 if 0 < fl then ⟨e.k,e.low + (e.rng - e.rng / ft * (ft - fl)),e.rng / ft * (fh - fl),e.r,e.raw⟩
 else ⟨e.k,e.low,e.rng - e.rng / ft * (ft - fh),e.r,e.raw⟩
def E.tk (e : E) (fl fh ft : Int) : E := (e.tk0 fl fh ft).on
def E.f0 (e : E) (v : Bool) (n : Nat) : E :=
 if v then ⟨e.k,e.low + (e.rng - e.rng / 2 ^ n),e.rng / 2 ^ n,e.r,e.raw⟩ else ⟨e.k,e.low,e.rng - e.rng / 2 ^ n,e.r,e.raw⟩
def E.fl (e : E) (v : Bool) (n : Nat) : E := (e.f0 v n).on
def E.bt (e : E) (v : Int) (n : Nat) : E := ⟨e.k,e.low,e.rng,e.r + n,e.raw + v * 2 ^ e.r⟩
structure Place (fl fh ft : Int) : Prop where
 t0 : 1 <= ft
 t1 : ft <= 65536
 a : 0 <= fl
 b : fl < fh
 c : fh <= ft
theorem E.tk0_facts {e : E} (h : e.Ok) {fl fh ft : Int} (p : Place fl fh ft) :
  1 <= e.rng / ft /\ e.rng / ft * ft <= e.rng /\ 0 <= e.rng / ft * (ft - fh) /\ e.rng / ft * (ft - fh) + e.rng / ft * (fh - fl) = e.rng / ft * (ft - fl) /\ e.rng / ft * (ft - fl) + e.rng / ft * fl = e.rng / ft * ft /\ 1 <= e.rng / ft * (fh - fl) /\ 0 <= e.rng / ft * fl := by
 obtain ⟨t0,t1,a,b,c⟩ := p
 obtain ⟨e0,e1,e2⟩ := e_facts h.g t0 t1
 generalize e.rng / ft = s at *
 refine ⟨e0,e1,Int.mul_nonneg (by omega) (by omega),?_,?_,?_,Int.mul_nonneg (by omega) (by omega)⟩
 ·rw [<- Int.mul_add]; congr 1; omega
 ·rw [<- Int.mul_add]; congr 1; omega
 ·have : 1 * 1 <= s * (fh - fl) := Int.mul_le_mul e0 (by omega) (by omega) (by omega)
  omega
theorem E.tk0_pre {e : E} (h : e.Ok) {fl fh ft : Int} (p : Place fl fh ft) : (e.tk0 fl fh ft).Pre := by
 obtain ⟨k1,k2,k3,k4,k5,k6,k7⟩ := E.tk0_facts h p
 obtain ⟨⟨h1,h2,h3,h4,h5,h6⟩,h7⟩ := h
 unfold E.tk0
 split
 ·exact ⟨by simp only; omega,by simp only; omega,by simp only; omega,by simp only; omega,h5,h6⟩
 ·have : fl = 0 := by have := p.a; omega
  subst this
  simp only [Int.sub_zero] at *
  exact ⟨by simp only; omega,by simp only; omega,by simp only; omega,by simp only; omega,h5,h6⟩
theorem E.tk_ok {e : E} (h : e.Ok) {fl fh ft : Int} (p : Place fl fh ft) : (e.tk fl fh ft).Ok := E.on_ok (E.tk0_pre h p)
theorem E.bt_ok {e : E} (h : e.Ok) {v : Int} {n : Nat} (v0 : 0 <= v) (v1 : v < 2 ^ n) : (e.bt v n).Ok := by
 obtain ⟨⟨h1,h2,h3,h4,h5,h6⟩,h7⟩ := h
 have hp := p2pos e.r
 refine ⟨⟨h1,h2,h3,h4,?_,?_⟩,h7⟩
 ·have := Int.mul_nonneg v0 (show 0 <= (2 : Int) ^ e.r by omega)
  simp only [E.bt]; omega
 ·simp only [E.bt]
  rw [Int.pow_add]
  have : v * 2 ^ e.r <= (2 ^ n - 1) * 2 ^ e.r := Int.mul_le_mul_of_nonneg_right (by omega) (by omega)
  rw [Int.sub_mul,Int.one_mul,Int.mul_comm (2 ^ n)] at this
  omega
def E.In (b : List Int) (e : E) : Prop := e.low <= cp b (e.k + 4) / 2 /\ cp b (e.k + 4) / 2 < e.low + e.rng
def E.rd (b : List Int) (e : E) : Q := ⟨e.rng,e.low + e.rng - 1 - cp b (e.k + 4) / 2,nb b (e.k + 3),e.k + 4⟩
end Go.Pl
/-
 Chapter 4 in plain words: the bytes that are told at the end hold the code and the bits for the end.
 Conditions: none.
-/
namespace Go.Pl
open Go.Eng
structure E.Fit (b : List Int) (e : E) : Prop where
 i : e.In b
 s : bsum b 0 e.r = e.raw
theorem E.tk0_same (e : E) (fl fh ft : Int) : (e.tk0 fl fh ft).r = e.r /\ (e.tk0 fl fh ft).raw = e.raw /\ (e.tk0 fl fh ft).k = e.k := by unfold E.tk0; split <;> simp
theorem E.on_same (e : E) : e.on.r = e.r /\ e.on.raw = e.raw /\ e.k <= e.on.k /\ e.on.k <= e.k + 4 := E.norm_same 4 e
theorem E.tk_same (e : E) (fl fh ft : Int) : (e.tk fl fh ft).r = e.r /\ (e.tk fl fh ft).raw = e.raw /\ e.k <= (e.tk fl fh ft).k /\ (e.tk fl fh ft).k <= e.k + 4 := by
 have h1 := E.on_same (e.tk0 fl fh ft)
 have h2 := E.tk0_same e fl fh ft
 unfold E.tk
 rw [h2.1,h2.2.1,h2.2.2] at h1
 exact h1
end Go.Pl
/-
 Chapter 4 in plain words: what renc's functions come to (the register, symbols, flags, bits, numbers).
 Conditions: none.
-/
namespace Go.Pl
open Go.Eng Go.Proofs
section
variable {N : Nat}
theorem E.step_val (e : E) : e.step.val = e.val * 256 % 2147483648 := by
 simp only [E.val,E.step]
 omega
structure E.Lim (N : Nat) (e : E) : Prop where
 k : e.k < 1099511627000
 r : e.r < 1099511627000
 N : e.k + 400 <= N
theorem E.val_range (e : E) : 0 <= e.val /\ e.val < 2147483648 := by unfold E.val; omega
def E.sy (e : E) (s : Nat) (t : List Int) : E := e.tk (symL t s) (256 - t.getD s 0) 256
end
end Go.Pl
/-
 Chapter 4 in plain words: numbers below a bound, Tell, the end.
 Conditions: none.
-/
namespace Go.Pl
open Go.Eng Go.Proofs
def E.un (e : E) (v ft : Int) : E := if ft = 1 then e else if ft <= 256 then e.tk v (v + 1) ft else (e.tk (v / 2 ^ ub ft) (v / 2 ^ ub ft + 1) (uf ft)).bt (v % 2 ^ ub ft) (ub ft)
theorem un_place {v ft : Int} (v0 : 0 <= v) (v1 : v < ft) (h1 : ft <= 256) : Place v (v + 1) ft := ⟨by omega,by omega,v0,by omega,by omega⟩
theorem ug_place {v ft : Int} (v0 : 0 <= v) (v1 : v < ft) (h0 : 256 < ft) (h1 : ft <= 4294967295) : Place (v / 2 ^ ub ft) (v / 2 ^ ub ft + 1) (uf ft) /\ 0 <= v / 2 ^ ub ft /\ v / 2 ^ ub ft < 256 := by
 obtain ⟨b0,b1,b2,u0,u1⟩ := ub_range h0 h1
 have hp := p2pos (ub ft)
 have h2 : 0 <= v / 2 ^ ub ft := Int.ediv_nonneg v0 (by omega)
 have h3 : v / 2 ^ ub ft <= (ft - 1) / 2 ^ ub ft := Int.ediv_le_ediv hp (by omega)
 have h4 : uf ft = (ft - 1) / 2 ^ ub ft + 1 := rfl
 exact ⟨⟨u0,by omega,h2,by omega,by omega⟩,h2,by omega⟩
theorem E.un_ok {e : E} (h : e.Ok) {v ft : Int} (v0 : 0 <= v) (v1 : v < ft) (h1 : ft <= 4294967295) : (e.un v ft).Ok := by
 unfold E.un
 split
 ·exact h
 ·split
  ·exact E.tk_ok h (un_place v0 v1 (by omega))
  ·exact E.bt_ok (E.tk_ok h (ug_place v0 v1 (by omega) h1).1) (Int.emod_nonneg _ (by have := p2pos (ub ft); omega)) (Int.emod_lt_of_pos _ (p2pos _))
section
variable {N : Nat}
theorem E.Lim.tk {e : E} (hl : e.Lim (N + 4)) {fl fh ft : Int} (hk : e.k < 1099511626000) : (e.tk fl fh ft).Lim (N + 8) := by
 have := E.tk_same e fl fh ft
 obtain ⟨l1,l2,l3⟩ := hl
 exact ⟨by omega,by omega,by omega⟩
end
end Go.Pl
/-
 Chapter 4 in plain words: what Done tells.
 Conditions: none.
-/
namespace Go.Pl
open Go.Eng Go.Proofs
section
variable {N : Nat}
theorem E.all_eq (e : E) (h0 : 0 <= e.low) : e.told ++ [e.val / 8388608,e.val / 32768 % 256,e.val / 128 % 256,e.val * 2 % 256] = tb (e.k + 4) (2 * e.low) := by
 simp only [tb,E.told,E.val]
 rw [show 2 * e.low / 256 / 256 / 256 / 256 = e.low / 2147483648 by omega,show 2 * e.low / 256 / 256 / 256 % 256 = e.low % 2147483648 / 8388608 by omega,show 2 * e.low / 256 / 256 % 256 = e.low % 2147483648 / 32768 % 256 by omega,
  show 2 * e.low / 256 % 256 = e.low % 2147483648 / 128 % 256 by omega,show 2 * e.low % 256 = e.low % 2147483648 * 2 % 256 by omega]
 simp
end
end Go.Pl
/-
 Chapter 4 in plain words: numbers that are small as a rule.
 Conditions: none.
-/
namespace Go.Pl
open Go.Eng Go.Proofs
def Lp.it (decay : Int) : Nat -> Lp -> Lp
 | 0,p => p
 | n + 1,p => Lp.it decay n (p.step decay)
structure Lp.Sm (p : Lp) : Prop where
 s0 : 1 <= p.s
 s1 : p.s <= 20000
theorem Lp.Sm.step {decay : Int} (d0 : 0 <= decay) (d1 : decay <= 16000) {p : Lp} (h : p.Sm) : (p.step decay).Sm /\ 0 <= (2 * p.s - 2) * decay /\ (2 * p.s - 2) * decay <= (2 * p.s - 2) * 16000 := by
 obtain ⟨h3,h4⟩ := h
 have k1 : 0 <= (2 * p.s - 2) * decay := Int.mul_nonneg (by omega) d0
 have k2 : (2 * p.s - 2) * decay <= (2 * p.s - 2) * 16000 := Int.mul_le_mul_of_nonneg_left d1 (by omega)
 exact ⟨⟨by simp only [Lp.step]; omega,by simp only [Lp.step]; omega⟩,k1,k2⟩
theorem Lp.it_facts {decay : Int} (d0 : 0 <= decay) (d1 : decay <= 16000) : ∀ (n : Nat) (p : Lp),p.Sm -> (Lp.it decay n p).Sm /\ p.l + 2 * n <= (Lp.it decay n p).l /\ (Lp.it decay n p).v = p.v + n
 | 0,p,h => ⟨h,by simp [Lp.it],by simp [Lp.it]⟩
 | n + 1,p,h => by
  obtain ⟨h1,h2,h3⟩ := Lp.it_facts d0 d1 n (p.step decay) (h.step d0 d1).1
  have := h.s0
  simp only [Lp.it]
  refine ⟨h1,?_,?_⟩
  ·simp only [Lp.step] at h2; simp only [Lp.step]; omega
  ·simp only [Lp.step] at h3; simp only [Lp.step]; omega
theorem Lp.it_one {decay : Int} : ∀ (n : Nat) (p : Lp),p.s = 1 -> Lp.it decay n p = ⟨p.l + 2 * n,p.v + n,1⟩
 | 0,p,h => by cases p; simp at h; subst h; simp [Lp.it]
 | n + 1,p,h => by
  have hs : p.step decay = ⟨p.l + 2,p.v + 1,1⟩ := by simp [Lp.step,h]
  simp only [Lp.it]
  rw [hs,Lp.it_one n _ rfl,Lp.mk.injEq]
  exact ⟨by simp only; omega,by simp only; omega,rfl⟩
def lapOf (f : Int) (p : Lp) : Lp := if f < p.l + p.s then ⟨p.l,-p.v,p.s⟩ else ⟨p.l + p.s,p.v,p.s⟩
theorem lap_it {decay f : Int} (d0 : 0 <= decay) (d1 : decay <= 16000) : ∀ (i n : Nat) (p : Lp),p.Sm -> f < p.l + 4 * n -> (Lp.it decay i p).l <= f -> f < (Lp.it decay i p).l + 2 * (Lp.it decay i p).s ->
  lapEnd f (Lp.run decay f n p) = lapOf f (Lp.it decay i p)
 | 0,n,p,h,hn,h1,h2 => by
  simp only [Lp.it] at h1 h2 ⊢
  have hr : Lp.run decay f n p = p := by
   cases n with
   | zero => rfl
   | succ n => simp only [Lp.run]; rw [if_neg (by omega)]
  rw [hr]
  unfold lapEnd lapOf
  have := h.s0
  by_cases hs : p.s <= 1
  ·have e1 : (f - p.l) / 2 = 0 := by omega
   simp only [if_pos hs,e1]
   simp
  ·simp only [if_neg hs]
 | i + 1,0,p,h,hn,h1,h2 => by
  have := (Lp.it_facts d0 d1 (i + 1) p h).2.1
  omega
 | i + 1,n + 1,p,h,hn,h1,h2 => by
  obtain ⟨g1,g2,g3⟩ := Lp.it_facts d0 d1 i (p.step decay) (h.step d0 d1).1
  simp only [Lp.it] at h1 h2
  have hs0 := h.s0
  by_cases hs : 1 < p.s
  ·have el : (p.step decay).l = p.l + 2 * p.s := rfl
   have : p.l + 2 * p.s <= f := by omega
   simp only [Lp.run]
   rw [if_pos ⟨hs,this⟩]
   exact lap_it d0 d1 i n _ (h.step d0 d1).1 (by rw [el]; omega) h1 h2
  ·have h1s : p.s = 1 := by omega
   have hr : Lp.run decay f (n + 1) p = p := by simp only [Lp.run]; rw [if_neg (by omega)]
   have hi := Lp.it_one (decay:=decay) (i + 1) p h1s
   simp only [Lp.it] at hi
   rw [hi] at h1 h2
   simp only [Lp.it]
   rw [hr,hi]
   simp only at h1 h2
   have e1 : (f - p.l) / 2 = ((i + 1 : Nat) : Int) := by omega
   unfold lapEnd lapOf
   simp only [e1,h1s,Int.le_refl,if_true]
def plR (decay up sg : Int) (i : Nat) (p : Lp) : Int × Int × Int :=
 (sg * (Lp.it decay i p).v,(Lp.it decay i p).l + up * (Lp.it decay i p).s,min ((Lp.it decay i p).l + up * (Lp.it decay i p).s + (Lp.it decay i p).s) 32768)
def plOut (decay up : Int) (i : Nat) (p : Lp) : Prop := (Lp.it decay i p).l + up * (Lp.it decay i p).s >= 32768
theorem start_sm {fs decay : Int} (h0 : 256 <= fs) (h1 : fs <= 28000) (d0 : 0 <= decay) (d1 : decay <= 16000) : (Lp.start fs decay).Sm /\ (Lp.start fs decay).l + (Lp.start fs decay).s < 32768 /\ 0 <= (32736 - fs) * (16384 - decay) /\ (32736 - fs) * (16384 - decay) <= (32736 - fs) * 16384 := by
 have k1 : 0 <= (32736 - fs) * (16384 - decay) := Int.mul_nonneg (by omega) (by omega)
 have k2 : (32736 - fs) * (16384 - decay) <= (32736 - fs) * 16384 := Int.mul_le_mul_of_nonneg_left (by omega) (by omega)
 exact ⟨⟨by simp only [Lp.start]; omega,by simp only [Lp.start]; omega⟩,by simp only [Lp.start]; omega,k1,k2⟩
structure Lap (fs decay v : Int) (r : Int × Int × Int) : Prop where
 z : v = 0 -> r = (0,0,fs)
 nz : v ≠ 0 -> ∃ (up sg : Int) (i : Nat),(0 < v /\ up = 1 /\ sg = 1 \/ v < 0 /\ up = 0 /\ sg = -1) /\ i < 16300 /\ (∀ j,j <= i -> ¬ plOut decay up j (Lp.start fs decay)) /\ 1 + (i : Int) <= sg * v /\ (1 + (i : Int) = sg * v \/ plOut decay up (i + 1) (Lp.start fs decay)) /\ r = plR decay up sg i (Lp.start fs decay)
theorem Lap.place {fs decay v : Int} {r : Int × Int × Int} (h0 : 256 <= fs) (h1 : fs <= 28000) (d0 : 0 <= decay) (d1 : decay <= 16000) (h : Lap fs decay v r) :
  Place r.2.1 r.2.2 32768 /\ (∀ f,r.2.1 <= f -> f < r.2.2 -> (lapAt f fs decay).l = r.2.1 /\ lapH (lapAt f fs decay) = r.2.2 /\ (lapAt f fs decay).v = r.1) /\ (0 <= v -> 0 <= r.1 /\ r.1 <= v) /\ (v <= 0 -> r.1 <= 0 /\ v <= r.1) := by
 obtain ⟨sm,sl,_,_⟩ := start_sm h0 h1 d0 d1
 by_cases hz : v = 0
 ·rw [h.z hz]
  refine ⟨⟨by omega,by omega,by simp only; omega,by simp only; omega,by simp only; omega⟩,fun f f0 f1 => ?_,fun _ => by simp only; omega,fun _ => by simp only; omega⟩
  simp only at f0 f1
  unfold lapAt
  rw [if_neg (by omega)]
  refine ⟨rfl,?_,rfl⟩
  unfold lapH
  simp only
  omega
 ·obtain ⟨up,sg,i,hu,hi,i1,i2,i3,rfl⟩ := h.nz hz
  obtain ⟨g1,g2,g3⟩ := Lp.it_facts d0 d1 i (Lp.start fs decay) sm
  have hno := i1 i (Nat.le_refl _)
  unfold plOut at hno
  have hv : (Lp.start fs decay).v = 1 := rfl
  have hl : (Lp.start fs decay).l = fs := rfl
  obtain ⟨s0,s1⟩ := g1
  unfold plR
  have hus : 0 <= up * (Lp.it decay i (Lp.start fs decay)).s /\ up * (Lp.it decay i (Lp.start fs decay)).s <= (Lp.it decay i (Lp.start fs decay)).s := by
   rcases hu with ⟨_,rfl,_⟩ | ⟨_,rfl,_⟩ <;> simp <;> omega
  refine ⟨⟨by omega,by omega,by simp only; omega,by simp only; omega,by simp only; omega⟩,fun f f0 f1 => ?_,fun hp => ?_,fun hp => ?_⟩
  ·simp only at f0 f1 ⊢
   have hf : f < (Lp.it decay i (Lp.start fs decay)).l + 2 * (Lp.it decay i (Lp.start fs decay)).s := by omega
   unfold lapAt
   rw [if_pos (show f >= fs by omega),lap_it d0 d1 i 8192 (Lp.start fs decay) sm (by omega) (by omega) hf]
   unfold lapOf lapH
   rcases hu with ⟨_,rfl,rfl⟩ | ⟨_,rfl,rfl⟩
   ·simp only [Int.one_mul] at f0 f1 ⊢
    rw [if_neg (by omega)]
    simp
   ·simp only [Int.zero_mul,Int.add_zero] at f0 f1 ⊢
    rw [if_pos (by omega)]
    simp only [true_and]
    omega
  ·rcases hu with ⟨_,rfl,rfl⟩ | ⟨hn,_⟩
   ·simp only [Int.one_mul] at i2 ⊢; omega
   ·omega
  ·rcases hu with ⟨hn,_⟩ | ⟨_,rfl,rfl⟩
   ·omega
   ·simp only at i2 ⊢; omega
end Go.Pl
/-
 Chapter 4 in plain words: each writing, and what a reader finds of it.
 Conditions: none.
-/
namespace Go.Pl
open Go.Eng Go.Proofs
structure E.Low (e : E) : Prop where
 k : e.k <= 10000
 r : e.r <= 100000
def E.new : E := ⟨0,0,2147483648,0,0⟩
theorem E.new_ok : E.new.Ok := ⟨⟨by decide,by decide,by decide,by decide,by decide,by decide⟩,by decide⟩
section
variable {N : Nat}
end
section
variable {b : List Int} {e : E}
end
end Go.Pl
