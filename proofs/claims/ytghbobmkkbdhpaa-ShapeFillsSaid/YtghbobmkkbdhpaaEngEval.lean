/-
  The engine, part one: a deterministic evaluator of the model's code over abstract values (no proofs here).
  Conditions: none; nothing is claimed here; what is proved of it stands in the next parts.
-/
import Derived.Calls
import Derived.Orders
import Derived.Laws.World
import Derived.Below
import Derived.KernelRfl
import Derived.Laws.BytesArg
import Derived.Laws.StructEq
set_option linter.unusedSimpArgs false
set_option linter.unusedVariables false
namespace Go.Eng

/-- Abstract values of one cell. -/
inductive Atom where
  | unk
  | bool (b : Bool)
  | int (k : IntKind) (n : Int)
  | str (s : ByteArray)
  | nilp
  | ptr (id off : Nat)
  | eptr (id i j : Nat)
  | nils
  | full (id : Nat) (nn : Bool)
  | sub (id lo len : Nat)
  | roi (k : IntKind) (xs : List Int)
  | ror (tag : Nat)
  | rop (cs : List Atom)
  | fn (f : Fn) (cap : List Atom)
  | nilf
  | iface (t : TypeId) (agg : Bool) (cs : List Atom)
  | nili
  | und

inductive AV where
  | at (a : Atom)
  | agg (cs : List Atom)
  | tup (vs : List (Bool × List Atom))

/-- Leaves: what is left open in a shape. -/
structure Leaves where
  i : Nat → Int
  b : Nat → Bool
  l : Nat → List Int
  r : Nat → List (List Int)

def nth {α : Type} : List α → Nat → Option α
  | [], _ => none
  | x :: _, 0 => some x
  | _ :: xs, n + 1 => nth xs n

def nthD {α : Type} (d : α) : List α → Nat → α
  | [], _ => d
  | x :: _, 0 => x
  | _ :: xs, n + 1 => nthD d xs n

def setNth {α : Type} : List α → Nat → α → List α
  | [], _, _ => []
  | _ :: xs, 0, y => y :: xs
  | x :: xs, n + 1, y => x :: setNth xs n y

def mkL (is : List Int) (bs : List Bool) (ls : List (List Int)) (rs : List (List (List Int))) : Leaves :=
  ⟨nthD 0 is, nthD false bs, nthD [] ls, nthD [] rs⟩

/-- Elements of a row: whole numbers, at last, perhaps, a slice of whole numbers that is only read. -/
structure RecT where
  ks : List IntKind
  rk : Option IntKind

def recAs : List IntKind → Option IntKind → List Int → List Atom
  | [], none, _ => []
  | [], some k, r => [.roi k r]
  | k :: ks, rk, r => .int k (r.headD 0) :: recAs ks rk r.tail
def recA (T : RecT) (r : List Int) : List Atom := recAs T.ks T.rk r
def recW (T : RecT) : Nat := (recA T []).length

/-- A block of memory: elements of w cells; whole numbers (g: the room behind is the block's own); rows of elements as above; rows of slices of whole numbers that are only read, but for one, that is a block. -/
inductive Blk where
  | cells (w : Nat) (cs : List Atom)
  | ints (g : Bool) (k : IntKind) (xs : List Int)
  | recs (g : Bool) (T : RecT) (xss : List (List Int))
  | hole (k : IntKind) (xss : List (List Int)) (i b : Nat)

/-- A row of elements that is only read: how many, how many cells each, the cells. -/
structure RoT where
  n : Nat
  w : Nat
  f : Nat → Nat → Atom
abbrev RoTab := Nat → Option RoT

abbrev Heap := Nat → Option Blk
abbrev Fr := Nat → AV

/-! ### What is emitted -/
def chk {Y : Type} (c : Prop) [Decidable c] (k : Option Y) : Option Y := if c then k else none
def br {Y : Type} (b : Bool) (t e : Option Y) : Option Y := match b with | true => t | false => e
def chkI {Y : Type} (x y : Int) (k : Option Y) : Option Y := if x = y then k else none
def chkB {Y : Type} (x y : Bool) (k : Option Y) : Option Y := if x = y then k else none
def chkL {Y : Type} (x y : List Int) (k : Option Y) : Option Y := if x = y then k else none
def chkN {Y : Type} (x y : Nat) (k : Option Y) : Option Y := if x = y then k else none
def chkR {Y : Type} (x y : List (List Int)) (k : Option Y) : Option Y := if x = y then k else none
def ltI {Y : Type} (x : Int) (k : Int → Option Y) : Option Y := k x
def ltB {Y : Type} (x : Bool) (k : Bool → Option Y) : Option Y := k x
def ltL {Y : Type} (x : List Int) (k : List Int → Option Y) : Option Y := k x
def obind {X Y : Type} (x : Option X) (k : X → Option Y) : Option Y := match x with | some a => k a | none => none
def osum {X Y : Type} (x : Option (X ⊕ Y)) (k : X → Option Y) : Option Y := match x with | some (.inl a) => k a | some (.inr y) => some y | none => none
def omap {X Y : Type} (x : Option X) (f : X → Y) : Option Y := match x with | some a => some (f a) | none => none

/-- A test inside the evaluator: decided while it runs. -/
def gate {Y : Type} (b : Bool) (k : Option Y) : Option Y := match b with | true => k | false => none

/-! ### Types -/
def sizeT (P : Program) (t : TypeId) : Nat := P.cellsOf t
/-- Is it a struct or an array? (none: no such type) -/
def aggT (P : Program) (t : TypeId) : Option Bool :=
  match P.underlying t with
  | some (.struct _) | some (.array _ _) => some true
  | some _ => some false
  | none => none

def hasT (P : Program) (t : TypeId) : Bool := (P.info? t).isSome

def eqK : IntKind → IntKind → Bool
  | .i8, .i8 | .i16, .i16 | .i32, .i32 | .i64, .i64 | .u8, .u8 | .u16, .u16 | .u32, .u32 | .u64, .u64 => true
  | _, _ => false

def atomOf : Value → Atom
  | .bool b => .bool b
  | .int k n => .int k n
  | .string s => .str s
  | .pointer none => .nilp
  | .slice none 0 0 => .nils
  | .nilFunc => .nilf
  | .nilIface => .nili
  | _ => .unk

def atomsOf : List Value → List Atom
  | [] => []
  | v :: vs => atomOf v :: atomsOf vs

def avOf : Value → AV
  | .agg cs => .agg (atomsOf cs.toList)
  | v => .at (atomOf v)

def evOpd (F : Fr) : Operand → AV
  | .tmp t => F t
  | .const v => avOf v
  | .global _ => .at .unk
  | .func f => .at (.fn (.func f) [])

def putF (F : Fr) (d : Nat) (v : AV) : Fr := fun j => match Nat.beq j d with | true => v | false => F j
def putO (F : Fr) (d : Option Tmp) (v : AV) : Fr := match d with | some d => putF F d v | none => F
def putH (H : Heap) (id : Nat) (b : Option Blk) : Heap := fun j => match Nat.beq j id with | true => b | false => H j

def takeA : Nat → List Atom → List Atom
  | 0, _ => []
  | _ + 1, [] => []
  | n + 1, x :: xs => x :: takeA n xs

def dropA : Nat → List Atom → List Atom
  | 0, xs => xs
  | _ + 1, [] => []
  | n + 1, _ :: xs => dropA n xs

def lenA : List Atom → Nat
  | [] => 0
  | _ :: xs => lenA xs + 1

/-- The value of type t out of a list of cells. -/
def partA {Y : Type} (P : Program) (t : TypeId) (cs : List Atom) (off : Nat) (k : AV → Option Y) : Option Y :=
  match aggT P t with
  | some true => gate (Nat.ble (off + sizeT P t) (lenA cs)) (k (.agg (takeA (sizeT P t) (dropA off cs))))
  | some false => match nth cs off with
    | some a => k (.at a)
    | none => none
  | none => none

def notAgg (P : Program) (t : TypeId) : Bool :=
  match aggT P t with
  | some false => true
  | _ => false

/-- The cells of a value. -/
def cellsA : AV → List Atom
  | .at a => [a]
  | .agg cs => cs
  | .tup _ => []

/-- Is it known how many cells the value has? -/
def knownA : Atom → Bool
  | .unk => false
  | .und => false
  | _ => true

def knownAs : List Atom → Bool
  | [] => true
  | a :: r => knownA a && knownAs r

def solid : AV → Bool
  | .at a => knownA a
  | .agg cs => knownAs cs
  | .tup _ => false

def putCells : List Atom → Nat → List Atom → List Atom
  | cs, _, [] => cs
  | cs, off, a :: as => putCells (setNth cs off a) (off + 1) as

def rowOf (f : Nat → Nat → Atom) (i : Nat) : Nat → Nat → List Atom
  | 0, _ => []
  | n + 1, j => f i j :: rowOf f i n (j + 1)

/-! ### Loads -/
def evLoad {Y : Type} (P : Program) (H : Heap) (t : TypeId) (a : Atom) (k : AV → Option Y) : Option Y :=
  match a with
  | .ptr id off => match H id with
    | some (.cells _ cs) => partA P t cs off k
    | _ => none
  | .eptr id i j => match H id with
    | some (.ints _ kd xs) => gate (Nat.beq j 0 && notAgg P t) (k (.at (.int kd (xs.getD i 0))))
    | some (.recs _ T xss) => partA P t (recA T (xss.getD i [])) j k
    | some (.hole kd xss hi b) => gate (Nat.beq j 0 && notAgg P t) (br (decide (i = hi)) (k (.at (.full b true))) (k (.at (.roi kd (xss.getD i [])))))
    | _ => none
  | .rop cs => partA P t cs 0 k
  | _ => none

/-! ### Integers -/
def arith (op : BinOp) (k : IntKind) (x y : Int) : Option Atom :=
  match op with
  | .add => some (.int k (k.wrap (x + y)))
  | .sub => some (.int k (k.wrap (x - y)))
  | .mul => some (.int k (k.wrap (x * y)))
  | .and => some (.int k (k.wrap ((BitVec.ofInt k.bits x &&& BitVec.ofInt k.bits y).toNat : Int)))
  | .or => some (.int k (k.wrap ((BitVec.ofInt k.bits x ||| BitVec.ofInt k.bits y).toNat : Int)))
  | .xor => some (.int k (k.wrap ((BitVec.ofInt k.bits x ^^^ BitVec.ofInt k.bits y).toNat : Int)))
  | .andNot => some (.int k (k.wrap ((BitVec.ofInt k.bits x &&& ~~~ BitVec.ofInt k.bits y).toNat : Int)))
  | .eql => some (.bool (x == y))
  | .neq => some (.bool (x != y))
  | .lss => some (.bool (decide (x < y)))
  | .leq => some (.bool (decide (x ≤ y)))
  | .gtr => some (.bool (decide (x > y)))
  | .geq => some (.bool (decide (x ≥ y)))
  | _ => none

/-- A name's letters, as numbers. -/
def nameNums (s : String) : List Nat := s.toList.map Char.toNat

def eqNs : List Nat → List Nat → Bool
  | [], [] => true
  | x :: xs, y :: ys => match Nat.beq x y with
    | true => eqNs xs ys
    | false => false
  | _, _ => false

/-- Two structs of whole numbers and truths: are they the same? -/
def eqFs (P : Program) : List Field → List Atom → List Atom → Option Bool
  | [], _, _ => some true
  | f :: fs, as, bs => match eqNs (nameNums f.name) [95] with
    | true => none
    | false => match P.underlying f.type, partA P f.type as f.offset some, partA P f.type bs f.offset some with
      | some (.int _), some (.at (.int k a)), some (.at (.int k' b)) => match eqK k k', eqFs P fs as bs with
        | true, some r => some ((a == b) && r)
        | _, _ => none
      | some .bool, some (.at (.bool a)), some (.at (.bool b)) => match eqFs P fs as bs with
        | some r => some ((a == b) && r)
        | none => none
      | _, _, _ => none

def evBin {Y : Type} (P : Program) (op : BinOp) (t : TypeId) (x y : AV) (k : AV → Option Y) : Option Y :=
  match x, y with
  | .at (.int kx a), .at (.int ky b) =>
    match op with
    | .shl => chk (0 ≤ b) (k (.at (.int kx (kx.wrap (a * 2 ^ (min b.toNat kx.bits))))))
    | .shr => chk (0 ≤ b) (k (.at (.int kx (a.fdiv (2 ^ (min b.toNat kx.bits))))))
    | .quo => gate (eqK kx ky) (chk (b ≠ 0) (k (.at (.int kx (kx.wrap (a.tdiv b))))))
    | .rem => gate (eqK kx ky) (chk (b ≠ 0) (k (.at (.int kx (a.tmod b)))))
    | _ => gate (eqK kx ky) (match arith op kx a b with | some z => k (.at z) | none => none)
  | .at (.bool a), .at (.bool b) =>
    match op, P.underlying t with
    | .eql, some .bool => k (.at (.bool (a == b)))
    | .neq, some .bool => k (.at (.bool (!(a == b))))
    | _, _ => none
  | .at (.str a), .at (.str b) =>
    match op, P.underlying t with
    | .eql, some .string => k (.at (.bool (a.toList == b.toList)))
    | .neq, some .string => k (.at (.bool (!(a.toList == b.toList))))
    | _, _ => none
  | .at (.ptr _ _), .at .nilp => match op, P.underlying t with
    | .eql, some (.pointer _) => k (.at (.bool false))
    | .neq, some (.pointer _) => k (.at (.bool true))
    | _, _ => none
  | .at .nilp, .at .nilp => match op, P.underlying t with
    | .eql, some (.pointer _) => k (.at (.bool true))
    | .neq, some (.pointer _) => k (.at (.bool false))
    | _, _ => none
  | .at .nils, .at .nils => match op, P.underlying t with
    | .eql, some (.slice _) => k (.at (.bool true))
    | .neq, some (.slice _) => k (.at (.bool false))
    | _, _ => none
  | .at (.full _ true), .at .nils => match op, P.underlying t with
    | .eql, some (.slice _) => k (.at (.bool false))
    | .neq, some (.slice _) => k (.at (.bool true))
    | _, _ => none
  | .agg as, .agg bs => match P.underlying t, P.stoodInHeld t || P.eqGuardType P.depth t with
    | some (.struct fs), false => match eqFs P fs.toList as bs with
      | some b => match op with
        | .eql => k (.at (.bool b))
        | .neq => k (.at (.bool (!b)))
        | _ => none
      | none => none
    | _, _ => none
  | _, _ => none

def evUn {Y : Type} (op : UnOp) (x : AV) (k : AV → Option Y) : Option Y :=
  match op, x with
  | .neg, .at (.int kd n) => k (.at (.int kd (kd.wrap (0 - n))))
  | .xor, .at (.int kd n) => k (.at (.int kd (kd.wrap ((BitVec.ofInt kd.bits (if kd.signed then -1 else kd.max) ^^^ BitVec.ofInt kd.bits n).toNat : Int))))
  | .not, .at (.bool b) => k (.at (.bool (!b)))
  | _, _ => none

def evConv {Y : Type} (P : Program) (s d : TypeId) (x : AV) (k : AV → Option Y) : Option Y :=
  match P.underlying s, P.underlying d, x with
  | some _, some (.int kd), .at (.int _ n) => k (.at (.int kd (kd.wrap n)))
  | some (.slice e), some .string, .at (.roi .u8 xs) => match P.underlying e with
    | some (.int .u8) => k (.at (.str (strOfNums xs)))
    | _ => none
  | _, _, _ => none

/-! ### Places -/
def evField {Y : Type} (P : Program) (t : TypeId) (x : AV) (f : Nat) (k : AV → Option Y) : Option Y :=
  match P.underlying t, x with
  | some (.struct fs), .agg cs => match fs[f]? with
    | some fd => partA P fd.type cs fd.offset k
    | none => none
  | _, _ => none

def evFieldAddr {Y : Type} (P : Program) (t : TypeId) (x : AV) (f : Nat) (k : AV → Option Y) : Option Y :=
  match P.underlying t, x with
  | some (.struct fs), .at a => match fs[f]? with
    | some fd => gate (!Nat.beq (sizeT P fd.type) 0) (match a with
      | .ptr id off => k (.at (.ptr id (off + fd.offset)))
      | .eptr _ _ _ => none
      | .rop cs => k (.at (.rop (dropA fd.offset cs)))
      | _ => none)
    | none => none
  | _, _ => none

def lenOfA (RT : RoTab) (H : Heap) : Atom → Option Nat
  | .nils => some 0
  | .full id _ => match H id with
    | some (.ints _ _ xs) => some xs.length
    | some (.recs _ _ xss) => some xss.length
    | some (.hole _ xss _ _) => some xss.length
    | some (.cells w cs) => match Nat.blt 0 w with
      | true => some (lenA cs / w)
      | false => none
    | none => none
  | .sub id _ len => match H id with
    | some _ => some len
    | none => none
  | .roi _ xs => some xs.length
  | .ror tag => match RT tag with
    | some T => some T.n
    | none => none
  | _ => none

/-- The place of the element i (below the length) of a slice, and how many cells it has. -/
def elemA (RT : RoTab) (H : Heap) (a : Atom) (i : Nat) : Option (Atom × Nat) :=
  match a with
  | .full id _ => match H id with
    | some (.cells w _) => some (.ptr id (i * w), w)
    | some (.ints _ _ _) => some (.eptr id i 0, 1)
    | some (.recs _ T _) => match Nat.blt 0 (recW T) with
      | true => some (.eptr id i 0, recW T)
      | false => none
    | some (.hole _ _ _ _) => some (.eptr id i 0, 1)
    | none => none
  | .sub id lo _ => match H id with
    | some (.ints _ _ _) => some (.eptr id (lo + i) 0, 1)
    | _ => none
  | .roi k xs => some (.rop [.int k (xs.getD i 0)], 1)
  | .ror tag => match RT tag with
    | some T => match Nat.blt 0 T.w with
      | true => some (.rop (rowOf T.f i T.w 0), T.w)
      | false => none
    | none => none
  | _ => none

def evIndexAddr {Y : Type} (P : Program) (RT : RoTab) (H : Heap) (t : TypeId) (x ix : AV) (k : AV → Option Y) : Option Y :=
  match P.underlying t, x, ix with
  | some (.slice e), .at a, .at (.int _ i) =>
    match lenOfA RT H a with
    | some n => match elemA RT H a i.toNat with
      | some (p, w) => gate (Nat.beq w (sizeT P e) && hasT P e) (chk (0 ≤ i ∧ i < (n : Int)) (k (.at p)))
      | none => none
    | none => none
  | some (.array n e), .at (.ptr id off), .at (.int _ (.ofNat i)) =>
    gate (Nat.blt i n && hasT P e) (k (.at (.ptr id (off + i * sizeT P e))))
  | _, _, _ => none

/-- Are all cells whole numbers of one kind? -/
def intsOf (k : IntKind) : List Atom → Option (List Int)
  | [] => some []
  | .int k' n :: r => match eqK k k' with
    | true => match intsOf k r with
      | some l => some (n :: l)
      | none => none
    | false => none
  | _ :: _ => none

/-- A text's bytes. -/
def strLen (s : ByteArray) : Nat := s.size
def strInts (s : ByteArray) : List Int := s.data.toList.map fun b => (b.toNat : Int)

def evIndex {Y : Type} (P : Program) (t : TypeId) (x ix : AV) (k : AV → Option Y) : Option Y :=
  match P.underlying t, x, ix with
  | some (.array n e), .agg cs, .at (.int _ i) =>
    match P.underlying e with
    | some (.int kd) => match intsOf kd cs with
      | some l => gate (Nat.beq l.length n && Nat.beq (sizeT P e) 1) (chk (0 ≤ i ∧ i < (n : Int)) (k (.at (.int kd (l.getD i.toNat 0)))))
      | none => none
    | _ => none
  | some .string, .at (.str s), .at (.int _ i) =>
    chk (0 ≤ i ∧ i < (strLen s : Int)) (k (.at (.int .u8 ((strInts s).getD i.toNat 0))))
  | _, _, _ => none

def evExtract {Y : Type} (x : AV) (i : Nat) (k : AV → Option Y) : Option Y :=
  match x with
  | .tup vs => match nth vs i with
    | some (true, cs) => k (.agg cs)
    | some (false, [a]) => k (.at a)
    | _ => none
  | _ => none

def evAssert {Y : Type} (P : Program) (x : AV) (t : TypeId) (ok : Bool) (k : AV → Option Y) : Option Y :=
  match P.underlying t, x, ok with
  | some (.interface _), _, _ => none
  | some _, .at (.iface t' g cs), false => gate (Nat.beq t t') (match g, cs with
    | true, cs => k (.agg cs)
    | false, [a] => k (.at a)
    | _, _ => none)
  | _, _, _ => none

def evIface {Y : Type} (P : Program) (t : TypeId) (x : AV) (k : AV → Option Y) : Option Y :=
  match P.underlying t, x with
  | some (.interface _), _ => none
  | some _, .at a => k (.at (.iface t false [a]))
  | some _, .agg cs => k (.at (.iface t true cs))
  | _, _ => none

def fillA (place : Nat → Option (Nat × Nat)) (cs : List Atom) : List (Nat × AV) → Option (List Atom)
  | [] => some cs
  | (i, v) :: r => match place i with
    | none => none
    | some (off, size) => match solid v && (Nat.beq (lenA (cellsA v)) size && Nat.ble (off + size) (lenA cs)) with
      | true => fillA place (putCells cs off (cellsA v)) r
      | false => none

def fieldPlaces (P : Program) (fs : Array Field) (i : Nat) : Option (Nat × Nat) :=
  match fs[i]? with
  | some f => some (f.offset, sizeT P f.type)
  | none => none

def zeroA (P : Program) (t : TypeId) : Option (List Atom) :=
  match P.info? t with
  | some i => match i.zero with
    | some (.agg cs) => some (atomsOf cs.toList)
    | some v => some [atomOf v]
    | none => none
  | none => none

def partsA (F : Fr) : List (Nat × Operand) → List (Nat × AV)
  | [] => []
  | (i, x) :: r => (i, evOpd F x) :: partsA F r

def fieldsHave (P : Program) : List Field → Bool
  | [] => true
  | f :: r => hasT P f.type && fieldsHave P r

def evBuild {Y : Type} (P : Program) (t : TypeId) (parts : List (Nat × AV)) (k : AV → Option Y) : Option Y :=
  match zeroA P t, P.underlying t with
  | some z, some (.struct fs) => match fillA (fieldPlaces P fs) z parts with
    | some cs => gate (fieldsHave P fs.toList) (k (.agg cs))
    | none => none
  | some z, some (.array _ e) => match fillA (fun i => some (i * sizeT P e, sizeT P e)) z parts with
    | some cs => gate (hasT P e) (k (.agg cs))
    | none => none
  | _, _ => none

def evMinMax {Y : Type} (mx : Bool) : List AV → (AV → Option Y) → Option Y
  | [.at (.int kx a), .at (.int _ b)], k => match mx with
    | true => k (.at (.int kx (if b > a then b else a)))
    | false => k (.at (.int kx (if b < a then b else a)))
  | _, _ => none

def evLen {Y : Type} (P : Program) (RT : RoTab) (H : Heap) (t : TypeId) (x : AV) (k : AV → Option Y) : Option Y :=
  match P.underlying t, x with
  | some (.slice _), .at a => match lenOfA RT H a with
    | some n => k (.at (.int .i64 (n : Int)))
    | none => none
  | some .string, .at (.str s) => k (.at (.int .i64 (strLen s : Int)))
  | some (.array n _), _ => k (.at (.int .i64 (n : Int)))
  | _, _ => none

/-- A bound of a slice expression. -/
def boundA {Y : Type} (x : Option AV) (dflt : Nat) (most : Nat) (k : Nat → Option Y) : Option Y :=
  match x with
  | none => k dflt
  | some (.at (.int _ i)) => chk (0 ≤ i ∧ i ≤ (most : Int)) (k i.toNat)
  | _ => none

def subA (a : Atom) (l h : Nat) : Option Atom :=
  match a with
  | .full id _ => some (.sub id l (h - l))
  | .sub id lo _ => some (.sub id (lo + l) (h - l))
  | .roi k xs => some (.roi k ((xs.drop l).take (h - l)))
  | _ => none

/-- Has a slice's element one cell? -/
def oneCell (H : Heap) : Atom → Bool
  | .full id _ => match H id with
    | some (.ints _ _ _) => true
    | _ => false
  | .sub id _ _ => match H id with
    | some (.ints _ _ _) => true
    | _ => false
  | .roi _ _ => true
  | _ => false

def evSlice {Y : Type} (P : Program) (RT : RoTab) (H : Heap) (t : TypeId) (x : AV) (lo hi : Option AV) (mx : Bool) (k : AV → Option Y) : Option Y :=
  match P.underlying t, x, mx with
  | some (.slice e), .at a, false => match lenOfA RT H a with
    | some n => gate (Nat.beq (sizeT P e) 1 && oneCell H a) (boundA hi n n fun h => boundA lo 0 h fun l => match subA a l h with
      | some s => k (.at s)
      | none => none)
    | none => none
  | _, _, _ => none

def optA (F : Fr) : Option Operand → Option AV
  | none => none
  | some x => some (evOpd F x)

def argsA (F : Fr) : List Operand → List AV
  | [] => []
  | x :: r => evOpd F x :: argsA F r

def atomsIn : List AV → Option (List Atom)
  | [] => some []
  | .at a :: r => match atomsIn r with
    | some l => some (a :: l)
    | none => none
  | _ :: _ => none

/-- The operations that only look. -/
def evR {Y : Type} (P : Program) (RT : RoTab) (H : Heap) (F : Fr) (op : Op) (k : AV → Option Y) : Option Y :=
  match op with
  | .move x => k (evOpd F x)
  | .assign x => k (evOpd F x)
  | .pick c a b => match evOpd F c with
    | .at (.bool c) => br c (k (evOpd F a)) (k (evOpd F b))
    | _ => none
  | .load t x => match evOpd F x with
    | .at a => evLoad P H t a k
    | _ => none
  | .nilCheck x => match evOpd F x with
    | .at (.ptr i o) => k (.at (.ptr i o))
    | .at (.eptr i o j) => k (.at (.eptr i o j))
    | .at (.rop cs) => k (.at (.rop cs))
    | .at (.fn (.func f) cs) => k (.at (.fn (.func f) cs))
    | _ => none
  | .binOp op t x y _ => evBin P op t (evOpd F x) (evOpd F y) k
  | .unOp op _ x => evUn op (evOpd F x) k
  | .convert s d x => evConv P s d (evOpd F x) k
  | .makeInterface t x => evIface P t (evOpd F x) k
  | .makeFunc (.func f) first cap => match first.toList, atomsIn (argsA F cap.toList) with
    | [], some cs => k (.at (.fn (.func f) cs))
    | _, _ => none
  | .fieldAddr t x f => evFieldAddr P t (evOpd F x) f k
  | .field t x f => evField P t (evOpd F x) f k
  | .indexAddr t x ix => evIndexAddr P RT H t (evOpd F x) (evOpd F ix) k
  | .index t x ix => evIndex P t (evOpd F x) (evOpd F ix) k
  | .typeAssert x _ t ok => evAssert P (evOpd F x) t ok k
  | .extract x i => evExtract (evOpd F x) i k
  | .build t parts => evBuild P t (partsA F parts.toList) k
  | .slice t x lo hi mx => evSlice P RT H t (evOpd F x) (optA F lo) (optA F hi) mx.isSome k
  | .call c => match c.callee with
    | .builtin .min => evMinMax false (argsA F c.args.toList) k
    | .builtin .max => evMinMax true (argsA F c.args.toList) k
    | .builtin .len => match argsA F c.args.toList, c.argTypes.toList with
      | [x], [t] => evLen P RT H t x k
      | _, _ => none
    | _ => none
  | _ => none

/-! ### Shapes -/
inductive Pat where
  | unk
  | bool (h : Nat)
  | int (k : IntKind) (h : Nat)
  | roi (k : IntKind) (h : Nat)
  | fbool (h : Nat)
  | fint (k : IntKind) (h : Nat)
  | froi (k : IntKind) (h : Nat)
  | nilp
  | ptr (t off : Nat)
  | full (t : Nat) (nn : Bool)
  | ror (tag : Nat)
  | fn (f : Nat)
  | ifp (ty : TypeId) (t off : Nat)
  | fsub (t h1 h2 : Nat)
  | clo (f : Nat) (ts : List (Nat × Nat))
  | nils

inductive VPat where
  | at (p : Pat)
  | agg (ps : List Pat)
  | tup (vs : List (Bool × List Pat))

inductive BPat where
  | cells (w : Nat) (ps : List Pat)
  | ints (g : Bool) (k : IntKind) (h : Nat)
  | recs (g : Bool) (T : RecT) (h : Nat)
  | fints (g : Bool) (k : IntKind) (h : Nat)
  | frecs (g : Bool) (T : RecT) (h : Nat)
  | fhole (k : IntKind) (h hi t : Nat)
  | dead

inductive View where
  | none
  | whole (id : Nat)
  | part (id lo len : Nat)
  | empty

/-- What a match has found: the views, the leaves, the fixed leaves, the blocks that are lent. -/
structure MS where
  σ : List View
  is : List Int
  bs : List Bool
  ls : List (List Int)
  rs : List (List (List Int))
  fis : List Int
  fbs : List Bool
  fls : List (List Int)
  frs : List (List (List Int))
  lent : List Nat

def MS.leaves (m : MS) : Leaves := mkL m.is m.bs m.ls m.rs
def MS.fixed (m : MS) : Leaves := mkL m.fis m.fbs m.fls m.frs

def snoc {α : Type} : List α → α → List α
  | [], y => [y]
  | x :: xs, y => x :: snoc xs y

def len {α : Type} : List α → Nat
  | [] => 0
  | _ :: xs => len xs + 1

def nones : Nat → List View
  | 0 => []
  | n + 1 => .none :: nones n

def MS.start (n : Nat) : MS := ⟨nones n, [], [], [], [], [], [], [], [], []⟩

def bindView {Y : Type} (m : MS) (t : Nat) (v : View) (k : MS → Option Y) : Option Y :=
  match nth m.σ t with
  | some .none => k { m with σ := setNth m.σ t v }
  | some (.whole id) => match v with
    | .whole id' => gate (Nat.beq id id') (k m)
    | _ => none
  | _ => none

def pushI {Y : Type} (m : MS) (h : Nat) (n : Int) (k : MS → Option Y) : Option Y := gate (Nat.beq h (len m.is)) (k { m with is := snoc m.is n })
def pushB {Y : Type} (m : MS) (h : Nat) (n : Bool) (k : MS → Option Y) : Option Y := gate (Nat.beq h (len m.bs)) (k { m with bs := snoc m.bs n })
def pushL {Y : Type} (m : MS) (h : Nat) (n : List Int) (k : MS → Option Y) : Option Y := gate (Nat.beq h (len m.ls)) (k { m with ls := snoc m.ls n })
def pushR {Y : Type} (m : MS) (h : Nat) (n : List (List Int)) (k : MS → Option Y) : Option Y := gate (Nat.beq h (len m.rs)) (k { m with rs := snoc m.rs n })

/-- Fixed leaves: found at first (`none`), compared then. -/
def fixI {Y : Type} (Lc : Option Leaves) (m : MS) (h : Nat) (n : Int) (k : MS → Option Y) : Option Y :=
  match Lc with
  | none => gate (Nat.beq h (len m.fis)) (k { m with fis := snoc m.fis n })
  | some L => chkI n (L.i h) (k m)
def fixB {Y : Type} (Lc : Option Leaves) (m : MS) (h : Nat) (n : Bool) (k : MS → Option Y) : Option Y :=
  match Lc with
  | none => gate (Nat.beq h (len m.fbs)) (k { m with fbs := snoc m.fbs n })
  | some L => chkB n (L.b h) (k m)
def fixL {Y : Type} (Lc : Option Leaves) (m : MS) (h : Nat) (n : List Int) (k : MS → Option Y) : Option Y :=
  match Lc with
  | none => gate (Nat.beq h (len m.fls)) (k { m with fls := snoc m.fls n })
  | some L => chkL n (L.l h) (k m)
def fixR {Y : Type} (Lc : Option Leaves) (m : MS) (h : Nat) (n : List (List Int)) (k : MS → Option Y) : Option Y :=
  match Lc with
  | none => gate (Nat.beq h (len m.frs)) (k { m with frs := snoc m.frs n })
  | some L => chkR n (L.r h) (k m)

/-- A place in a row, as a leaf. -/
def fixN {Y : Type} (Lc : Option Leaves) (m : MS) (h : Nat) (n : Nat) (k : MS → Option Y) : Option Y :=
  match Lc with
  | none => gate (Nat.beq h (len m.fis)) (k { m with fis := snoc m.fis (n : Int) })
  | some L => chkN n (L.i h).toNat (k m)

/-- What a slice of whole numbers holds, and the block that is lent for it. -/
def roA {Y : Type} (H : Heap) (kd : IntKind) (a : Atom) (k : List Int → Option Nat → Option Y) : Option Y :=
  match a with
  | .roi kd' xs => gate (eqK kd kd') (k xs none)
  | .nils => k [] none
  | .full id _ => match H id with
    | some (.ints _ kd' xs) => gate (eqK kd kd') (k xs (some id))
    | _ => none
  | .sub id lo n => match H id with
    | some (.ints _ kd' xs) => gate (eqK kd kd') (k ((xs.drop lo).take n) (some id))
    | _ => none
  | _ => none

def lend (m : MS) : Option Nat → MS
  | none => m
  | some id => { m with lent := id :: m.lent }

/-- What a function has caught: places. -/
def mClo {Y : Type} : List (Nat × Nat) → List Atom → MS → (MS → Option Y) → Option Y
  | [], [], m, k => k m
  | (t, off) :: ts, .ptr id off' :: cs, m, k => gate (Nat.beq off off') (bindView m t (.whole id) fun m => mClo ts cs m k)
  | _, _, _, _ => none

def cloA : List (Nat × Nat) → List Atom
  | [] => []
  | (t, off) :: r => .ptr t off :: cloA r

/-- A value of one cell is held against a shape. -/
def mAtom {Y : Type} (H : Heap) (Lc : Option Leaves) (p : Pat) (a : Atom) (m : MS) (k : MS → Option Y) : Option Y :=
  match p, a with
  | .unk, _ => k m
  | .bool h, .bool b => pushB m h b k
  | .int kd h, .int kd' n => gate (eqK kd kd') (pushI m h n k)
  | .fbool h, .bool b => fixB Lc m h b k
  | .fint kd h, .int kd' n => gate (eqK kd kd') (fixI Lc m h n k)
  | .nilp, .nilp => k m
  | .ptr t off, .ptr id off' => gate (Nat.beq off off') (bindView m t (.whole id) k)
  | .full t nn, .full id nn' => gate (!nn || nn') (bindView m t (.whole id) k)
  | .full t nn, .sub id lo n => gate (!nn) (bindView m t (.part id lo n) k)
  | .full t nn, .nils => gate (!nn) (bindView m t .empty k)
  | .roi kd h, a => roA H kd a fun xs l => pushL (lend m l) h xs k
  | .froi kd h, a => roA H kd a fun xs l => fixL Lc (lend m l) h xs k
  | .ror tag, .ror tag' => gate (Nat.beq tag tag') (k m)
  | .fn f, .fn (.func g) [] => gate (Nat.beq f g) (k m)
  | .ifp ty t off, .iface ty' false [.ptr id off'] => gate (Nat.beq ty ty' && Nat.beq off off') (bindView m t (.whole id) k)
  | .fsub t h1 h2, .sub id lo n => fixN Lc m h1 lo fun m => fixN Lc m h2 n fun m => bindView m t (.whole id) k
  | .clo f ts, .fn (.func g) cs => gate (Nat.beq f g) (mClo ts cs m k)
  | .nils, .nils => k m
  | _, _ => none

def mAtoms {Y : Type} (H : Heap) (Lc : Option Leaves) : List Pat → List Atom → MS → (MS → Option Y) → Option Y
  | [], [], m, k => k m
  | p :: ps, a :: as, m, k => mAtom H Lc p a m fun m => mAtoms H Lc ps as m k
  | _, _, _, _ => none

def eqKs : List IntKind → List IntKind → Bool
  | [], [] => true
  | a :: as, b :: bs => eqK a b && eqKs as bs
  | _, _ => false
def eqT (a b : RecT) : Bool := eqKs a.ks b.ks && match a.rk, b.rk with
  | none, none => true
  | some k, some k' => eqK k k'
  | _, _ => false

def eqB : Bool → Bool → Bool
  | true, true => true
  | false, false => true
  | _, _ => false

def mTup {Y : Type} (H : Heap) (Lc : Option Leaves) : List (Bool × List Pat) → List (Bool × List Atom) → MS → (MS → Option Y) → Option Y
  | [], [], m, k => k m
  | (g, ps) :: r, (g', as) :: s, m, k => gate (eqB g g') (mAtoms H Lc ps as m fun m => mTup H Lc r s m k)
  | _, _, _, _ => none

def mAV {Y : Type} (H : Heap) (Lc : Option Leaves) (p : VPat) (a : AV) (m : MS) (k : MS → Option Y) : Option Y :=
  match p, a with
  | .at .unk, _ => k m
  | .at p, .at a => mAtom H Lc p a m k
  | .agg ps, .agg as => mAtoms H Lc ps as m k
  | .tup ps, .tup as => mTup H Lc ps as m k
  | _, _ => none

def mAVs {Y : Type} (H : Heap) (Lc : Option Leaves) : List VPat → List AV → MS → (MS → Option Y) → Option Y
  | [], [], m, k => k m
  | p :: ps, a :: as, m, k => mAV H Lc p a m fun m => mAVs H Lc ps as m k
  | _, _, _, _ => none

/-- The block behind a view, held against a shape. -/
def mBlk {Y : Type} (H : Heap) (Lc : Option Leaves) (p : BPat) (v : View) (m : MS) (k : MS → Option Y) : Option Y :=
  match p, v with
  | .cells w ps, .whole id => match H id with
    | some (.cells w' cs) => gate (Nat.beq w w') (mAtoms H Lc ps cs m k)
    | _ => none
  | .ints g kd h, .whole id => match H id with
    | some (.ints g' kd' xs) => gate ((!g || g') && eqK kd kd') (pushL m h xs k)
    | _ => none
  | .fints g kd h, .whole id => match H id with
    | some (.ints g' kd' xs) => gate ((!g || g') && eqK kd kd') (fixL Lc m h xs k)
    | _ => none
  | .ints false kd h, .part id lo n => match H id with
    | some (.ints _ kd' xs) => gate (eqK kd kd') (pushL m h ((xs.drop lo).take n) k)
    | _ => none
  | .fints false kd h, .part id lo n => match H id with
    | some (.ints _ kd' xs) => gate (eqK kd kd') (fixL Lc m h ((xs.drop lo).take n) k)
    | _ => none
  | .ints _ _ h, .empty => pushL m h [] k
  | .fints _ _ h, .empty => fixL Lc m h [] k
  | .recs g T h, .whole id => match H id with
    | some (.recs g' T' xss) => gate ((!g || g') && eqT T T') (pushR m h xss k)
    | some (.hole kd xss i b) => match H b with
      | some (.ints _ kd' ys) => gate ((!g && eqT T ⟨[], some kd⟩) && eqK kd kd') (pushR (lend m (some b)) h (xss.set i ys) k)
      | _ => none
    | _ => none
  | .frecs g T h, .whole id => match H id with
    | some (.recs g' T' xss) => gate ((!g || g') && eqT T T') (fixR Lc m h xss k)
    | _ => none
  | .fhole kd h hi t, .whole id => match H id with
    | some (.hole kd' xss i b) => gate (eqK kd kd') (fixR Lc m h xss fun m => fixN Lc m hi i fun m => bindView m t (.whole b) k)
    | _ => none
  | _, _ => none

/-- Named blocks, in order. -/
def mBlks {Y : Type} (H : Heap) (Lc : Option Leaves) : List (Nat × BPat) → MS → (MS → Option Y) → Option Y
  | [], m, k => k m
  | (t, p) :: ps, m, k => match p with
    | .dead => mBlks H Lc ps m k
    | p => match nth m.σ t with
      | some v => mBlk H Lc p v m fun m => mBlks H Lc ps m k
      | none => none

/-! ### Shapes are filled -/
def fAtom (L Lc : Leaves) : Pat → Atom
  | .unk => .unk
  | .bool h => .bool (L.b h)
  | .int k h => .int k (L.i h)
  | .roi k h => .roi k (L.l h)
  | .fbool h => .bool (Lc.b h)
  | .fint k h => .int k (Lc.i h)
  | .froi k h => .roi k (Lc.l h)
  | .nilp => .nilp
  | .ptr t off => .ptr t off
  | .full t nn => .full t nn
  | .ror tag => .ror tag
  | .fn f => .fn (.func f) []
  | .ifp ty t off => .iface ty false [.ptr t off]
  | .fsub t h1 h2 => .sub t (Lc.i h1).toNat (Lc.i h2).toNat
  | .clo f ts => .fn (.func f) (cloA ts)
  | .nils => .nils

def fAtoms (L Lc : Leaves) : List Pat → List Atom
  | [] => []
  | p :: ps => fAtom L Lc p :: fAtoms L Lc ps

def fTup (L Lc : Leaves) : List (Bool × List Pat) → List (Bool × List Atom)
  | [] => []
  | (g, ps) :: r => (g, fAtoms L Lc ps) :: fTup L Lc r

def fAV (L Lc : Leaves) : VPat → AV
  | .at p => .at (fAtom L Lc p)
  | .agg ps => .agg (fAtoms L Lc ps)
  | .tup vs => .tup (fTup L Lc vs)

def fAVs (L Lc : Leaves) : List VPat → List AV
  | [] => []
  | p :: ps => fAV L Lc p :: fAVs L Lc ps

def fBlk (L Lc : Leaves) : BPat → Option Blk
  | .dead => none
  | .cells w ps => some (.cells w (fAtoms L Lc ps))
  | .ints g k h => some (.ints g k (L.l h))
  | .recs g T h => some (.recs g T (L.r h))
  | .fints g k h => some (.ints g k (Lc.l h))
  | .frecs g T h => some (.recs g T (Lc.r h))
  | .fhole k h hi t => some (.hole k (Lc.r h) (Lc.i hi).toNat t)

/-- A heap is overlaid by named blocks. -/
def fHeap (L Lc : Leaves) (H : Heap) : List (Nat × BPat) → Heap
  | [] => H
  | (t, p) :: ps => putH (fHeap L Lc H ps) t (fBlk L Lc p)

/-- A frame is overlaid by named slots. -/
def fSlots (L Lc : Leaves) (F : Fr) : List (Nat × VPat) → Fr
  | [] => F
  | (t, p) :: r => putF (fSlots L Lc F r) t (fAV L Lc p)

def mSlots {Y : Type} (H : Heap) (Lc : Option Leaves) (F : Fr) : List (Nat × VPat) → MS → (MS → Option Y) → Option Y
  | [], m, k => k m
  | (t, p) :: r, m, k => mAV H Lc p (F t) m fun m => mSlots H Lc F r m k

def noHeap : Heap := fun _ => none
def noFr : Fr := fun _ => .at .unk

/-- No block is handed over twice, none that is lent. -/
def apartId (id : Nat) : List View → Bool
  | [] => true
  | .whole id' :: vs => !Nat.beq id id' && apartId id vs
  | .part id' _ _ :: vs => !Nat.beq id id' && apartId id vs
  | _ :: vs => apartId id vs

def viewsApart : List View → Bool
  | [] => true
  | .whole id :: vs => apartId id vs && viewsApart vs
  | .part id _ _ :: vs => apartId id vs && viewsApart vs
  | _ :: vs => viewsApart vs

def lentApart (σ : List View) : List Nat → Bool
  | [] => true
  | id :: r => apartId id σ && lentApart σ r

/-! ### A call by its shape -/
structure Spec where
  args : List VPat
  n : Nat
  pre : List (Nat × BPat)
  post : List (Nat × BPat)
  ret : VPat
  run : Nat → Leaves → {Y : Type} → (Leaves → Option Y) → Option Y

def mem : List Nat → Nat → Bool
  | [], _ => false
  | y :: r, x => match Nat.beq x y with
    | true => true
    | false => mem r x

/-- Ids of a callee's shapes are the caller's: those handed over, and new ones. -/
def renId (σ : List View) (live : List Nat) (n nx : Nat) (t : Nat) : Option Nat :=
  match mem live t with
  | false => none
  | true => match Nat.blt t n with
    | true => match nth σ t with
      | some (.whole id) => some id
      | _ => none
    | false => some (nx + (t - n))

def noLent : List Nat → Bool
  | [] => true
  | _ :: _ => false

def renAtom (ro : Bool) (ρ : Nat → Option Nat) : Atom → Atom
  | .roi k xs => match ro with
    | true => .roi k xs
    | false => .unk
  | .ptr t off => match ρ t with
    | some id => .ptr id off
    | none => .unk
  | .full t nn => match ρ t with
    | some id => .full id nn
    | none => .unk
  | .bool b => .bool b
  | .int k n => .int k n
  | .nilp => .nilp
  | .ror tag => .ror tag
  | .fn (.func f) [] => .fn (.func f) []
  | .iface ty false [.ptr t off] => match ρ t with
    | some id => .iface ty false [.ptr id off]
    | none => .unk
  | _ => .unk

def renAtoms (ro : Bool) (ρ : Nat → Option Nat) : List Atom → List Atom
  | [] => []
  | a :: r => renAtom ro ρ a :: renAtoms ro ρ r

def renTup (ro : Bool) (ρ : Nat → Option Nat) : List (Bool × List Atom) → List (Bool × List Atom)
  | [] => []
  | (g, as) :: r => (g, renAtoms ro ρ as) :: renTup ro ρ r

def renAV (ro : Bool) (ρ : Nat → Option Nat) : AV → AV
  | .at a => .at (renAtom ro ρ a)
  | .agg as => .agg (renAtoms ro ρ as)
  | .tup vs => .tup (renTup ro ρ vs)

def renBlk (ro : Bool) (ρ : Nat → Option Nat) : Option Blk → Option Blk
  | some (.cells w cs) => some (.cells w (renAtoms ro ρ cs))
  | some (.recs g T xss) => match ro with
    | true => some (.recs g T xss)
    | false => none
  | some (.hole _ _ _ _) => none
  | b => b

/-- What the blocks are behind the call. -/
def postBlk (ro : Bool) (ρ : Nat → Option Nat) (σ : List View) (n nx : Nat) (t : Nat) (b : Option Blk) (H : Heap) : Heap :=
  match Nat.blt t n with
  | true => match nth σ t with
    | some (.whole id) => putH H id (renBlk ro ρ b)
    | some (.part id lo len) => match H id, b with
      | some (.ints g kd xs), some (.ints _ kd' ys) => putH H id (match eqK kd kd' with
        | true => some (.ints g kd (xs.take lo ++ (ys ++ xs.drop (lo + len))))
        | false => none)
      | _, _ => putH H id none
    | _ => H
  | false => putH H (nx + (t - n)) (renBlk ro ρ b)

def postBlks (ro : Bool) (ρ : Nat → Option Nat) (σ : List View) (n nx : Nat) (L Lc : Leaves) : List (Nat × BPat) → Heap → Heap
  | [], H => H
  | (t, p) :: ps, H => postBlk ro ρ σ n nx t (fBlk L Lc p) (postBlks ro ρ σ n nx L Lc ps H)

def idsLive : List (Nat × BPat) → List Nat
  | [] => []
  | (_, .dead) :: r => idsLive r
  | (t, _) :: r => t :: idsLive r

/-- Parts are asked for with their bounds. -/
def partsIn {Y : Type} (H : Heap) : List View → Option Y → Option Y
  | [], k => k
  | .part id lo n :: vs, k => match H id with
    | some (.ints _ _ xs) => chk (lo + n ≤ xs.length) (partsIn H vs k)
    | _ => none
  | _ :: vs, k => partsIn H vs k

def allBound : List View → Bool
  | [] => true
  | .none :: _ => false
  | _ :: vs => allBound vs

def callSpec {Y : Type} (N : Nat) (s : Spec) (args : List AV) (H : Heap) (nx : Nat) (k : AV → Heap → Nat → Option Y) : Option Y :=
  mAVs H none s.args args (MS.start s.n) fun m =>
    mBlks H none s.pre m fun m =>
      gate (allBound m.σ && (viewsApart m.σ && lentApart m.σ m.lent)) (partsIn H m.σ (s.run N m.leaves fun L =>
        k (renAV (noLent m.lent) (renId m.σ (idsLive s.post) s.n nx) (fAV L m.leaves s.ret))
          (postBlks (noLent m.lent) (renId m.σ (idsLive s.post) s.n nx) m.σ s.n nx L m.leaves s.post H)
          (nx + len s.post)))

/-! ### The operations that turn memory -/
def most : Nat := 17592186043904

def zeros (n : Nat) : List Int := List.replicate n 0

def storeA {Y : Type} (P : Program) (H : Heap) (t : TypeId) (a : Atom) (v : AV) (k : Heap → Option Y) : Option Y :=
  match a with
  | .ptr id off => match H id with
    | some (.cells w cs) => gate (solid v && (hasT P t && (Nat.beq (lenA (cellsA v)) (sizeT P t) && Nat.ble (off + lenA (cellsA v)) (lenA cs)))) (k (putH H id (some (.cells w (putCells cs off (cellsA v))))))
    | _ => none
  | .eptr id i j => match H id, v with
    | some (.ints g kd xs), .at (.int kd' n) => gate (eqK kd kd' && (Nat.beq j 0 && Nat.beq (sizeT P t) 1)) (k (putH H id (some (.ints g kd (xs.set i n)))))
    | some (.recs _ ⟨[], some kd⟩ xss), .at (.full b true) => match H b with
      | some (.ints _ kd' _) => gate (eqK kd kd' && (Nat.beq j 0 && (Nat.beq (sizeT P t) 1 && (hasT P t && !Nat.beq id b)))) (k (putH H id (some (.hole kd xss i b))))
      | _ => none
    | _, _ => none
  | _ => none

/-- Of what kind are the numbers of a slice? -/
def sliceK (P : Program) (t : TypeId) : Option IntKind :=
  match P.underlying t with
  | some (.slice e) => match P.underlying e with
    | some (.int kd) => some kd
    | _ => none
  | _ => none

def makeA {Y : Type} (P : Program) (H : Heap) (nx : Nat) (t : TypeId) (l c : AV) (k : AV → Heap → Nat → Option Y) : Option Y :=
  match P.underlying t, l, c with
  | some (.slice e), .at (.int _ l), .at (.int _ c) => match zeroA P e with
    | some [.nils] => match sliceK P e with
      | some kd => gate (Nat.ble (P.bytesOf e) 100 && Nat.beq (sizeT P e) 1) (chk (0 ≤ l ∧ l ≤ c ∧ c ≤ 1000000) (k (.at (.full nx true)) (putH H nx (some (.recs false ⟨[], some kd⟩ (List.replicate l.toNat [])))) (nx + 1)))
      | none => none
    | some [.int kd z] => gate (Nat.ble (P.bytesOf e) 8 && (Nat.beq (sizeT P e) 1 && decide (z = 0))) (chk (0 ≤ l ∧ l ≤ c ∧ c ≤ (most : Int)) (k (.at (.full nx true)) (putH H nx (some (.ints true kd (zeros l.toNat)))) (nx + 1)))
    | _ => none
  | _, _, _ => none

def buildA {Y : Type} (P : Program) (H : Heap) (nx : Nat) (t : TypeId) (n : Nat) (parts : List (Nat × AV)) (k : AV → Heap → Nat → Option Y) : Option Y :=
  match P.underlying t with
  | some (.slice e) => match zeroA P e with
    | some z => match fillA (fun i => some (i * sizeT P e, sizeT P e)) (reps n z) parts with
      | some cs => match P.underlying e with
        | some (.int kd) => match intsOf kd cs with
          | some l => gate (Nat.beq (sizeT P e) 1 && Nat.beq (lenA z) 1) (gate (Nat.ble n 1000) (k (.at (.full nx true)) (putH H nx (some (.ints true kd l))) (nx + 1)))
          | none => none
        | _ => gate (Nat.beq (lenA z) (sizeT P e) && (Nat.blt 0 (sizeT P e) && Nat.ble (n * sizeT P e) 1000)) (k (.at (.full nx true)) (putH H nx (some (.cells (sizeT P e) cs))) (nx + 1))
      | none => none
    | none => none
  | _ => none
where
  reps : Nat → List Atom → List Atom
    | 0, _ => []
    | n + 1, z => app z (reps n z)
  app : List Atom → List Atom → List Atom
    | [], ys => ys
    | x :: xs, ys => x :: app xs ys

/-- What is appended. -/
def contA {Y : Type} (H : Heap) (kd : IntKind) (a : AV) (k : List Int → Option Y) : Option Y :=
  match a with
  | .at a => roA H kd a fun xs _ => k xs
  | _ => none

/-- A slice of elements of one cell, of at most eight bytes. -/
def oneZero (P : Program) (e : TypeId) : Bool :=
  match zeroA P e with
  | some [_] => true
  | _ => false
def smallT (P : Program) (e : TypeId) : Bool := Nat.beq (sizeT P e) 1 && (Nat.ble (P.bytesOf e) 8 && oneZero P e)

/-- Is a slice's element a whole number of that kind, nought at first? -/
def zeroInt (P : Program) (e : TypeId) (kd : IntKind) : Bool :=
  match zeroA P e with
  | some [.int k z] => eqK kd k && decide (z = 0)
  | _ => false

def appendA {Y : Type} (P : Program) (H : Heap) (nx : Nat) (t t2 : TypeId) (s x : AV) (k : AV → Heap → Nat → Option Y) : Option Y :=
  match P.underlying t, P.underlying t2 with
  | some (.slice e), some (.int _) => match P.underlying e, s, x with
    | some (.int kd), .at (.full id nn), .at (.int _ n) => match H id with
      | some (.ints true kd' xs) => gate (smallT P e && (zeroInt P e kd && eqK kd kd')) (chk (0 ≤ n ∧ n ≤ (most : Int)) (chk (xs.length + n.toNat ≤ most)
          (k (.at (.full nx nn)) (putH (putH H id none) nx (some (.ints true kd (xs ++ zeros n.toNat)))) (nx + 1))))
      | _ => none
    | _, _, _ => none
  | some (.slice e), some (.slice _) => match P.underlying e, s with
    | some (.int kd), .at .nils => gate (smallT P e) (contA H kd x fun ys => chk (ys.length ≤ most)
        (k (.at (.full nx false)) (putH H nx (some (.ints true kd ys))) (nx + 1)))
    | some (.int kd), .at (.full id nn) => match H id with
      | some (.ints true kd' xs) => gate (smallT P e && eqK kd kd') (contA H kd x fun ys => chk (xs.length + ys.length ≤ most)
          (k (.at (.full nx nn)) (putH (putH H id none) nx (some (.ints true kd (xs ++ ys)))) (nx + 1)))
      | _ => none
    | _, _ => none
  | _, _ => none

/-- The row behind an element's cells. -/
def recOf : List Atom → Option (RecT × List Int)
  | [] => some (⟨[], none⟩, [])
  | .roi k xs :: [] => some (⟨[], some k⟩, xs)
  | .int k n :: r => match recOf r with
    | some (T, row) => some (⟨k :: T.ks, T.rk⟩, n :: row)
    | none => none
  | _ => none

def zeroLen (P : Program) (e : TypeId) (w : Nat) : Bool :=
  match zeroA P e with
  | some z => Nat.beq (lenA z) w
  | none => false

/-- Is it a slice of structs? -/
def structE (P : Program) (t : TypeId) : Option TypeId :=
  match P.underlying t with
  | some (.slice e) => match P.underlying e with
    | some (.struct _) => some e
    | _ => none
  | _ => none

def mostR : Nat := 1000000

/-- One struct is appended. -/
def appendR {Y : Type} (P : Program) (H : Heap) (nx : Nat) (t2 e : TypeId) (s x : AV) (k : AV → Heap → Nat → Option Y) : Option Y :=
  match P.underlying t2, x with
  | some (.slice _), .at (.full id2 _) => match H id2 with
    | some (.cells w cs) => match recOf cs with
      | some (T, row) => gate (Nat.beq (lenA cs) w && (Nat.beq w (sizeT P e) && (Nat.blt 0 w && (Nat.ble (P.bytesOf e) 64 && zeroLen P e w)))) (match s with
        | .at .nils => k (.at (.full nx false)) (putH H nx (some (.recs true T [row]))) (nx + 1)
        | .at (.full id nn) => match H id with
          | some (.recs true T' xss) => gate (eqT T T') (chk (xss.length + 1 ≤ mostR) (k (.at (.full nx nn)) (putH (putH H id none) nx (some (.recs true T (xss ++ [row])))) (nx + 1)))
          | _ => none
        | _ => none)
      | none => none
    | _ => none
  | _, _ => none

def isIntT (P : Program) (e : TypeId) : Bool :=
  match P.underlying e with
  | some (.int _) => true
  | _ => false

def copyA {Y : Type} (P : Program) (H : Heap) (t : TypeId) (d s : AV) (k : AV → Heap → Option Y) : Option Y :=
  match P.underlying t, d with
  | some (.slice e), .at (.full id _) => match H id with
    | some (.ints g kd xs) => gate (smallT P e && isIntT P e) (contA H kd s fun ys =>
        k (.at (.int .i64 ((min ys.length xs.length : Nat) : Int))) (putH H id (some (.ints g kd (ys.take xs.length ++ xs.drop (min ys.length xs.length))))))
    | _ => none
  | some (.slice e), .at (.sub id lo n) => match H id with
    | some (.ints g kd xs) => gate (smallT P e && isIntT P e) (contA H kd s fun ys => chk (lo + n ≤ xs.length)
        (k (.at (.int .i64 ((min ys.length n : Nat) : Int))) (putH H id (some (.ints g kd (xs.take lo ++ (ys.take n ++ xs.drop (lo + min ys.length n))))))))
    | _ => none
  | _, _ => none

/-! ### What the evaluator is given -/
/-- A loop's shape: at its head, and where it is left. -/
structure Ann where
  nx : Nat
  slots : List (Nat × VPat)
  blks : List (Nat × BPat)
  mov : List Nat
  exId : Nat
  xslots : List (Nat × VPat)
  xblks : List (Nat × BPat)
  T : Type
  dec : Leaves → T
  enc : T → Leaves
  ret : Bool

/-- What is told of one function: its loops, those that are unrolled, slices that are made to be read, values that are named. -/
structure FCfg where
  anns : List (Nat × Ann)
  unr : List (Nat × Nat)
  lits : List Nat
  lets : List Nat
  frz : List Nat := []
  mks : List Nat := []
  emps : List (Nat × RecT) := []

def FCfg.none : FCfg := ⟨[], [], [], [], [], [], []⟩

structure Cfg where
  P : Program
  N : Nat
  RT : RoTab
  specs : List (Nat × Spec)
  inl : List (Nat × FCfg)
  hi : Nat
  mv : List Nat
  exts : List Nat := []
  meths : List (Nat × List Nat × Nat) := []
  laws : List (Nat × (List AV → Option Bool)) := []

/-- The method of that name of a type's values. -/
def findM : List (Nat × List Nat × Nat) → Nat → List Nat → Option Nat
  | [], _, _ => .none
  | (t, n, f) :: r, t', n' => match Nat.beq t t', eqNs n n' with
    | true, true => some f
    | _, _ => findM r t' n'

def find {α : Type 1} : List (Nat × α) → Nat → Option α
  | [], _ => .none
  | (g, s) :: r, f => match Nat.beq f g with
    | true => some s
    | false => find r f

/-- Is nil given where a shape wants nil? -/
def nilFit : List VPat → List AV → Bool
  | .at .nils :: ps, a :: as => match a with
    | .at .nils => nilFit ps as
    | _ => false
  | _ :: ps, _ :: as => nilFit ps as
  | _, _ => true

/-- The first contract of a function that fits the arguments. -/
def pick : List (Nat × Spec) → Nat → List AV → Option Spec
  | [], _, _ => none
  | (g, s) :: r, f, as => match Nat.beq f g && nilFit s.args as with
    | true => some s
    | false => pick r f as

def findN : List (Nat × Nat) → Nat → Option Nat
  | [], _ => .none
  | (g, s) :: r, f => match Nat.beq f g with
    | true => some s
    | false => findN r f

abbrev KC (Y : Type) := AV → Heap → Nat → Option Y
abbrev KS (Y : Type) := Fr → Heap → Nat → Option Y
/-- A call that is evaluated on the spot. -/
abbrev Inl := (Y : Type) → Nat → List AV → Heap → Nat → KC Y → Option Y

def atsA : List Atom → List AV
  | [] => []
  | b :: bs => .at b :: atsA bs

def appA : List AV → List Atom → List AV
  | [], bs => atsA bs
  | a :: as, bs => a :: appA as bs

/-- To add with a carry (math/bits.Add64). -/
def evExt {Y : Type} (args : List AV) (k : AV → Option Y) : Option Y :=
  match args with
  | [.at (.int .u64 x), .at (.int .u64 y), .at (.int .u64 c)] => chk (0 ≤ x ∧ 0 ≤ y ∧ 0 ≤ c ∧ c ≤ 1)
      (k (.tup [(false, [.int .u64 ((x + y + c) % 18446744073709551616)]), (false, [.int .u64 ((x + y + c) / 18446744073709551616)])]))
  | _ => none

def findL : List (Nat × (List AV → Option Bool)) → Nat → Option (List AV → Option Bool)
  | [], _ => none
  | (g, s) :: r, f => match Nat.beq f g with
    | true => some s
    | false => findL r f

/-- Values that hang on no block. -/
def looseA : AV → Bool
  | .at (.int _ _) => true
  | .at (.bool _) => true
  | .at (.roi _ _) => true
  | .at (.ror _) => true
  | _ => false

def looseAs : List AV → Bool
  | [] => true
  | a :: r => looseA a && looseAs r

def evCall {Y : Type} (C : Cfg) (inl : Inl) (H : Heap) (nx : Nat) (f : AV) (args : List AV) (k : KC Y) : Option Y :=
  match f with
  | .at (.fn (.func g) cap) => match findL C.laws g with
    | some φ => gate (looseAs (appA args cap)) (obind (φ (appA args cap)) fun b => k (.at (.bool b)) H nx)
    | none => match pick C.specs g (appA args cap) with
      | some s => callSpec C.N s (appA args cap) H nx k
      | none => match mem C.exts g with
        | true => evExt (appA args cap) fun v => k v H nx
        | false => inl Y g (appA args cap) H nx k
  | _ => none

/-- A method is called, of a value whose type is known. -/
def evInv {Y : Type} (C : Cfg) (inl : Inl) (H : Heap) (nx : Nat) (x : AV) (name : String) (args : List AV) (k : KC Y) : Option Y :=
  match x with
  | .at (.iface t false [a]) => match findM C.meths t (nameNums name) with
    | some f => evCall C inl H nx (.at (.fn (.func f) [])) (.at a :: args) k
    | none => none
  | _ => none

/-- Is it a slice that is made to be read, no more? -/
def isLit (K : FCfg) (o : Oper) : Bool :=
  match o.op, o.dst with
  | .buildSlice _ _ _, some d => mem K.lits d
  | _, _ => false

def isC (K : FCfg) (o : Oper) : Bool :=
  match o.op with
  | .alloc _ | .box _ _ | .store _ _ _ | .makeSlice _ _ _ => true
  | .buildSlice _ _ _ => !isLit K o
  | .call c => match c.callee with
    | .builtin .append | .builtin .copy | .value _ | .invoke _ _ => true
    | _ => false
  | _ => false

def evC {Y : Type} (C : Cfg) (inl : Inl) (H : Heap) (nx : Nat) (F : Fr) (op : Op) (k : KC Y) : Option Y :=
  match op with
  | .alloc e => match zeroA C.P e with
    | some z => k (.at (.ptr nx 0)) (putH H nx (some (.cells (lenA z) z))) (nx + 1)
    | none => none
  | .box _ x => gate (solid (evOpd F x)) (k (.at (.ptr nx 0)) (putH H nx (some (.cells (lenA (cellsA (evOpd F x))) (cellsA (evOpd F x))))) (nx + 1))
  | .buildSlice t n parts => buildA C.P H nx t n (partsA F parts.toList) k
  | .makeSlice t l c => makeA C.P H nx t (evOpd F l) (evOpd F c) k
  | .store t a x => match evOpd F a with
    | .at a => storeA C.P H t a (evOpd F x) fun H => k (.at .unk) H nx
    | _ => none
  | .call c => match c.callee with
    | .value f => evCall C inl H nx (evOpd F f) (argsA F c.args.toList) k
    | .invoke x name => evInv C inl H nx (evOpd F x) name (argsA F c.args.toList) k
    | .builtin .append => match argsA F c.args.toList, c.argTypes.toList with
      | [s, x], [t, t2] => match structE C.P t with
        | some e => appendR C.P H nx t2 e s x k
        | none => appendA C.P H nx t t2 s x k
      | _, _ => none
    | .builtin .copy => match argsA F c.args.toList, c.argTypes.toList with
      | [d, s], t :: _ => copyA C.P H t d s fun v H => k v H nx
      | _, _ => none
    | _ => none
  | _ => none

/-- A slice that is made to be read. -/
def evLit {Y : Type} (P : Program) (F : Fr) (op : Op) (k : AV → Option Y) : Option Y :=
  match op with
  | .buildSlice t n parts => match P.underlying t with
    | some (.slice e) => match zeroA P e with
      | some z => match fillA (fun i => some (i * sizeT P e, sizeT P e)) (buildA.reps n z) (partsA F parts.toList) with
        | some cs => match P.underlying e with
          | some (.int kd) => match intsOf kd cs with
            | some l => gate (Nat.beq (sizeT P e) 1 && (Nat.beq (lenA z) 1 && Nat.ble n 1000)) (k (.at (.roi kd l)))
            | none => none
          | _ => none
        | none => none
      | none => none
    | _ => none
  | _ => none

/-- A value's name. -/
def named {Y : Type} (K : FCfg) (d : Option Tmp) (v : AV) (k : AV → Option Y) : Option Y :=
  match d with
  | none => k v
  | some d => match mem K.lets d with
    | false => k v
    | true => match v with
      | .at (.int kd n) => ltI n fun n => k (.at (.int kd n))
      | .at (.bool b) => ltB b fun b => k (.at (.bool b))
      | v => k v

/-! ### Regions -/
/-- One operation; the heap that is looked at stands first. -/
def evOne {Y : Type} (C : Cfg) (K : FCfg) (inl : Inl) (o : Oper) (H0 : Heap) (F : Fr) (H : Heap) (nx : Nat) (k : AV → KS Y) : Option Y :=
  match isC K o with
  | true => evC C inl H nx F o.op fun v H nx => named K o.dst v fun v => k v (putO F o.dst v) H nx
  | false => match isLit K o with
    | true => evLit C.P F o.op fun v => k v (putO F o.dst v) H nx
    | false => evR C.P C.RT H0 F o.op fun v => named K o.dst v fun v => k v (putO F o.dst v) H nx

def dstAt (ops : List Oper) (g : Nat) : Option Tmp :=
  match nth ops g with
  | some o => o.dst
  | none => none

/-- The guard of an operation is asked: what stands in the frame then, and is it wanted? -/
def evGuard {Y : Type} (all : List Oper) (o : Oper) (F : Fr) (yes no : Fr → Option Y) : Option Y :=
  match o.guard with
  | none => yes F
  | some (g, want) => match dstAt all g with
    | none => none
    | some d => match F d with
      | .at (.bool b) =>
        br b
          (match want with
            | true => yes (putF F d (.at (.bool true)))
            | false => no (putF F d (.at (.bool true))))
          (match want with
            | true => no (putF F d (.at (.bool false)))
            | false => yes (putF F d (.at (.bool false))))
      | .at .und => no F
      | _ => none

open Classical in
/-- Both ways must come to one. -/
noncomputable def both {Y : Type} (a b : Option Y) : Option Y :=
  match a, b with
  | some x, some y => if x = y then some x else none
  | _, _ => none
/-- Is a slice of n elements nil? Only an empty one may be. -/
noncomputable def nilN {Y : Type} (n : Nat) (a b : Option Y) : Option Y :=
  match n with
  | 0 => both a b
  | _ + 1 => b

/-- May the slice be nil or not? -/
def mayNil : Atom → Bool
  | .full _ false => true
  | .sub _ _ _ => true
  | .roi _ _ => true
  | _ => false

/-- Is it a test of a slice against nil that isn't known? How long the slice is; is it asked whether it is not? -/
def nilT (P : Program) (RT : RoTab) (H : Heap) (F : Fr) (op : Op) : Option (Nat × Bool) :=
  match op with
  | .binOp .eql t x y _ => match P.underlying t, evOpd F x, evOpd F y with
    | some (.slice _), .at a, .at .nils => match mayNil a, lenOfA RT H a with
      | true, some n => some (n, false)
      | _, _ => none
    | _, _, _ => none
  | .binOp .neq t x y _ => match P.underlying t, evOpd F x, evOpd F y with
    | some (.slice _), .at a, .at .nils => match mayNil a, lenOfA RT H a with
      | true, some n => some (n, true)
      | _, _ => none
    | _, _, _ => none
  | _ => none

def memO (l : List Tmp) : Option Tmp → Bool
  | some d => mem l d
  | none => false

/-- A slice of whole numbers is only read from here on. -/
def frzA {Y : Type} (v : AV) (H : Heap) (k : AV → Heap → Option Y) : Option Y :=
  match v with
  | .at (.full id _) => match H id with
    | some (.ints _ kd xs) => k (.at (.roi kd xs)) (putH H id none)
    | _ => none
  | _ => none

def findT : List (Nat × RecT) → Nat → Option RecT
  | [], _ => none
  | (t, T) :: r, d => match Nat.beq d t with
    | true => some T
    | false => findT r d

def empT (l : List (Nat × RecT)) : Option Tmp → Option RecT
  | some d => findT l d
  | none => none

/-- No slice is taken for an empty row of elements. -/
def empA {Y : Type} (T : RecT) (v : AV) (H : Heap) (nx : Nat) (k : AV → Heap → Nat → Option Y) : Option Y :=
  match v with
  | .at .nils => k (.at (.full nx false)) (putH H nx (some (.recs true T []))) (nx + 1)
  | v => k v H nx

/-- One operation, in the text's order. -/
noncomputable def evOneN {Y : Type} (C : Cfg) (K : FCfg) (inl : Inl) (o : Oper) (F : Fr) (H : Heap) (nx : Nat) (k : AV → KS Y) : Option Y :=
  match nilT C.P C.RT H F o.op with
  | some (n, neg) => nilN n (k (.at (.bool (!neg))) (putO F o.dst (.at (.bool (!neg)))) H nx) (k (.at (.bool neg)) (putO F o.dst (.at (.bool neg))) H nx)
  | none => match memO K.frz o.dst with
    | false => match empT K.emps o.dst with
      | none => evOne C K inl o H F H nx k
      | some T => evOne C K inl o H F H nx fun v F' H' nx' => empA T v H' nx' fun v H' nx' => k v (putO F' o.dst v) H' nx'
    | true => evOne C K inl o H F H nx fun v F' H' nx' => frzA v H' fun v H' => k v (putO F' o.dst v) H' nx'

/-- One after the other. -/
noncomputable def evOps {Y : Type} (C : Cfg) (K : FCfg) (inl : Inl) (all : List Oper) : List Oper → Fr → Heap → Nat → KS Y → Option Y
  | [], F, H, nx, k => k F H nx
  | o :: os, F, H, nx, k => evGuard all o F
      (fun F => evOneN C K inl o F H nx fun _ F H nx => evOps C K inl all os F H nx k)
      (fun F => evOps C K inl all os (putO F o.dst (.at .und)) H nx k)

/-- Values that are looked at without memory. -/
def fixedA : AV → Bool
  | .at (.roi _ _) => true
  | .at (.ror _) => true
  | .at (.rop _) => true
  | .at .nils => true
  | _ => false

/-- Does it look into memory? -/
def looks (F : Fr) (o : Oper) : Bool :=
  match o.op with
  | .load _ x => !fixedA (evOpd F x)
  | .indexAddr _ x _ => !fixedA (evOpd F x)
  | .slice _ x _ _ _ => !fixedA (evOpd F x)
  | .call c => match c.callee with
    | .builtin .len => match argsA F c.args.toList with
      | [x] => !fixedA x
      | _ => true
    | _ => false
  | _ => false

structure Rd where
  i : Nat
  op : Op
  F : Fr
  v : AV
  τ : Nat

def bindsAny : Ground → Bool
  | .textOnly _ | .gcOnly _ => false
  | _ => true

/-- The operations ahead of one, as bits. -/
def edgesOf (acc : List Nat) : List Edge → Nat
  | [] => 0
  | e :: r => match bindsAny e.ground with
    | true => Nat.lor (Nat.lor (nthD 0 acc e.on) (Nat.shiftLeft 1 e.on)) (edgesOf acc r)
    | false => edgesOf acc r

def ancsOf : List Nat → List Oper → List Nat
  | acc, [] => acc
  | acc, o :: os => ancsOf (snoc acc (edgesOf acc o.after.toList)) os

def bit (n i : Nat) : Bool := Nat.beq (Nat.land (Nat.shiftRight n i) 1) 1

def opdTmps : List Operand → List Tmp
  | [] => []
  | .tmp t :: r => t :: opdTmps r
  | _ :: r => opdTmps r

/-- The slots that an operation looks at. -/
def eyes (all : List Oper) (o : Oper) : List Tmp :=
  match o.guard with
  | some (g, _) => match dstAt all g with
    | some d => d :: opdTmps o.op.operands.toList
    | none => opdTmps o.op.operands.toList
  | none => opdTmps o.op.operands.toList

def eqO : Option Tmp → Option Tmp → Bool
  | some a, some b => Nat.beq a b
  | _, _ => false

/-- Of two operations (the first one ahead in the text): either the first is ahead in every order, or neither looks at what the other writes; never do both write one slot. -/
def pairOk (all : List Oper) (ahead : Bool) (a b : Oper) : Bool :=
  !eqO a.dst b.dst && (ahead || (!memO (eyes all b) a.dst && !memO (eyes all a) b.dst))

def rowOk (all : List Oper) (anc : Nat) (b : Oper) : Nat → List Oper → Bool
  | _, [] => true
  | i, a :: as => pairOk all (bit anc i) a b && rowOk all anc b (i + 1) as

def pairsOk (all : List Oper) : List Nat → List Oper → List Oper → Bool
  | anc :: ancs, done, o :: os => rowOk all anc o 0 done && pairsOk all ancs (snoc done o) os
  | _, _, _ => true

/-- Each one that turns memory is ahead of the next one in every order. -/
def chainRow (K : FCfg) (anc : Nat) : Nat → List Oper → Bool
  | _, [] => true
  | i, a :: as => (!isC K a || bit anc i) && chainRow K anc (i + 1) as

def chainOk (K : FCfg) : List Nat → List Oper → List Oper → Bool
  | anc :: ancs, done, o :: os => (!isC K o || chainRow K anc 0 done) && chainOk K ancs (snoc done o) os
  | _, _, _ => true

def backEdges : Nat → List Oper → Bool
  | _, [] => true
  | i, o :: os => go i o.after.toList && backEdges (i + 1) os
where
  go (i : Nat) : List Edge → Bool
    | [] => true
    | e :: r => (!bindsAny e.ground || Nat.blt e.on i) && go i r

/-- Two values are the same. -/
def eqAtom {Y : Type} (a b : Atom) (k : Option Y) : Option Y :=
  match a, b with
  | .int kd n, .int kd' n' => gate (eqK kd kd') (chkI n n' k)
  | .bool x, .bool y => chkB x y k
  | .nilp, .nilp => k
  | .nils, .nils => k
  | .ptr id off, .ptr id' off' => gate (Nat.beq id id') (chkN off off' k)
  | .eptr id i j, .eptr id' i' j' => gate (Nat.beq id id' && Nat.beq j j') (chkN i i' k)
  | .full id nn, .full id' nn' => gate (Nat.beq id id' && eqB nn nn') k
  | .sub id lo n, .sub id' lo' n' => gate (Nat.beq id id') (chkN lo lo' (chkN n n' k))
  | .roi kd xs, .roi kd' xs' => gate (eqK kd kd') (chkL xs xs' k)
  | .ror t, .ror t' => gate (Nat.beq t t') k
  | _, _ => none

def eqAtoms {Y : Type} : List Atom → List Atom → Option Y → Option Y
  | [], [], k => k
  | a :: as, b :: bs, k => eqAtom a b (eqAtoms as bs k)
  | _, _, _ => none

def eqAV {Y : Type} (a b : AV) (k : Option Y) : Option Y :=
  match a, b with
  | .at a, .at b => eqAtom a b k
  | .agg as, .agg bs => eqAtoms as bs k
  | _, _ => none

/-- May the reader i stand behind just the first τ of those that turn memory? -/
def fits (ancs : List Nat) (i : Nat) : Nat → List Nat → Bool
  | _, [] => true
  | 0, c :: cs => !bit (nthD 0 ancs i) c && fits ancs i 0 cs
  | τ + 1, c :: cs => !bit (nthD 0 ancs c) i && fits ancs i τ cs

def checkRd {Y : Type} (C : Cfg) (ancs : List Nat) (chs : List Nat) (rd : Rd) : Nat → List Heap → Option Y → Option Y
  | _, [], k => k
  | τ, H :: hs, k => match fits ancs rd.i τ chs && !Nat.beq τ rd.τ with
    | true => evR C.P C.RT H rd.F rd.op fun v => eqAV v rd.v (checkRd C ancs chs rd (τ + 1) hs k)
    | false => checkRd C ancs chs rd (τ + 1) hs k

def checkRds {Y : Type} (C : Cfg) (ancs : List Nat) (chs : List Nat) (hs : List Heap) : List Rd → Option Y → Option Y
  | [], k => k
  | rd :: rds, k => checkRd C ancs chs rd 0 hs (checkRds C ancs chs hs rds k)

/-- One after the other; it is told who looked at what, when. -/
def evOpsA {Y : Type} (C : Cfg) (K : FCfg) (inl : Inl) (all : List Oper) (ancs : List Nat) : Nat → List Oper → Fr → Heap → Nat → List Heap → List Nat → List Rd → KS Y → Option Y
  | _, [], F, H, nx, hs, chs, rds, k => checkRds C ancs chs hs rds (k F H nx)
  | i, o :: os, F, H, nx, hs, chs, rds, k => evGuard all o F
      (fun F => evOne C K inl o H F H nx fun v F' H' nx' => match isC K o with
        | true => evOpsA C K inl all ancs (i + 1) os F' H' nx' (snoc hs H') (snoc chs i) rds k
        | false => match looks F o with
          | true => evOpsA C K inl all ancs (i + 1) os F' H' nx' hs chs (⟨i, o.op, F, v, len chs⟩ :: rds) k
          | false => evOpsA C K inl all ancs (i + 1) os F' H' nx' hs chs rds k)
      (fun F => evOpsA C K inl all ancs (i + 1) os (putO F o.dst (.at .und)) H nx hs chs rds k)

def noInl : Inl := fun _ _ _ _ _ _ => none

/-- Is it a slice of whole numbers that may be made ahead of others or behind them? -/
def isMk (K : FCfg) (o : Oper) : Bool :=
  match o.op, o.dst with
  | .makeSlice _ _ _, some d => mem K.mks d
  | _, _ => false

def anyMk (K : FCfg) : List Oper → Bool
  | [] => false
  | o :: os => isMk K o || anyMk K os

def mkA {Y : Type} (P : Program) (t : TypeId) (l c : AV) (k : IntKind → List Int → Option Y) : Option Y :=
  match P.underlying t, l, c with
  | some (.slice e), .at (.int _ l), .at (.int _ c) => match zeroA P e with
    | some [.int kd z] => gate (Nat.ble (P.bytesOf e) 8 && (Nat.beq (sizeT P e) 1 && decide (z = 0))) (chk (0 ≤ l ∧ l ≤ c ∧ c ≤ (most : Int)) (k kd (zeros l.toNat)))
    | _ => none
  | _, _, _ => none

def evMk {Y : Type} (C : Cfg) (F : Fr) (op : Op) (k : IntKind → List Int → Option Y) : Option Y :=
  match op with
  | .makeSlice t l c => mkA C.P t (evOpd F l) (evOpd F c) k
  | _ => none

/-- A region that makes slices in whatever order, and turns no memory else: H is looked at, G is what there is at last. -/
def evMks {Y : Type} (C : Cfg) (K : FCfg) (all : List Oper) (H : Heap) (nx : Nat) : Nat → List Oper → Fr → Heap → (Fr → Heap → Option Y) → Option Y
  | _, [], F, G, k => k F G
  | i, o :: os, F, G, k => evGuard all o F
      (fun F => match isMk K o with
        | true => evMk C F o.op fun kd xs => evMks C K all H nx (i + 1) os (putO F o.dst (.at (.full (nx + i) true))) (putH G (nx + i) (some (.ints true kd xs))) k
        | false => gate (!isC K o && !isLit K o) (evR C.P C.RT H F o.op fun v => evMks C K all H nx (i + 1) os (putO F o.dst v) G k))
      (fun F => evMks C K all H nx (i + 1) os (putO F o.dst (.at .und)) G k)

def evDrawM {Y : Type} (C : Cfg) (K : FCfg) (all : List Oper) (F : Fr) (H : Heap) (nx : Nat) (k : KS Y) : Option Y :=
  gate (backEdges 0 all && pairsOk all (ancsOf [] all) [] all) (evMks C K all H nx 0 all F H fun F G => k F G (nx + len all))

def evDraw {Y : Type} (C : Cfg) (K : FCfg) (all : List Oper) (F : Fr) (H : Heap) (nx : Nat) (k : KS Y) : Option Y :=
  match anyMk K all with
  | true => evDrawM C K all F H nx k
  | false => gate (backEdges 0 all && (pairsOk all (ancsOf [] all) [] all && chainOk K (ancsOf [] all) [] all)) (evOpsA C K noInl all (ancsOf [] all) 0 all F H nx [H] [] [] k)

/-! ### Code -/
inductive Ex where
  | normal
  | exit (id : Nat)

def firstR : Code → Option Nat
  | .region id _ _ => some id
  | .seq a b => match firstR a with
    | some i => some i
    | none => firstR b
  | .block _ c => firstR c
  | .loop c => firstR c
  | .cond _ t e => match firstR t with
    | some i => some i
    | none => firstR e
  | _ => none

def ridOf (c : Code) : Nat :=
  match firstR c with
  | some i => i
  | none => 0

def asgOps : List Oper → Nat → Bool
  | [], _ => false
  | o :: os, j => eqO o.dst (some j) || asgOps os j

/-- May the code write that slot? -/
def asg : Code → Nat → Bool
  | .region _ ops _, j => asgOps ops.toList j
  | .seq a b, j => asg a j || asg b j
  | .cond _ t e, j => asg t j || asg e j
  | .block _ c, j => asg c j
  | .loop c, j => asg c j
  | .skip, _ => false
  | .exit _, _ => false
  | .ret, _ => false
  | _, _ => true

def scrubA (mov : List Nat) : Atom → Atom
  | .unk => .unk
  | .bool b => .bool b
  | .int k n => .int k n
  | .str s => .str s
  | .nilp => .nilp
  | .nils => .nils
  | .roi k xs => .roi k xs
  | .ror t => .ror t
  | .nilf => .nilf
  | .nili => .nili
  | .ptr id off => match mem mov id with
    | true => .unk
    | false => .ptr id off
  | .eptr id i j => match mem mov id with
    | true => .unk
    | false => .eptr id i j
  | .full id nn => match mem mov id with
    | true => .unk
    | false => .full id nn
  | .sub id lo n => match mem mov id with
    | true => .unk
    | false => .sub id lo n
  | .fn (.func f) [] => .fn (.func f) []
  | .iface ty false [.ptr id off] => match mem mov id with
    | true => .unk
    | false => .iface ty false [.ptr id off]
  | _ => .unk

def scrubAs (mov : List Nat) : List Atom → List Atom
  | [] => []
  | a :: r => scrubA mov a :: scrubAs mov r

def scrubT (mov : List Nat) : List (Bool × List Atom) → List (Bool × List Atom)
  | [] => []
  | (g, as) :: r => (g, scrubAs mov as) :: scrubT mov r

def scrubAV (mov : List Nat) : AV → AV
  | .at a => .at (scrubA mov a)
  | .agg as => .agg (scrubAs mov as)
  | .tup vs => .tup (scrubT mov vs)

def scrubB (mov : List Nat) : Option Blk → Option Blk
  | some (.cells w cs) => some (.cells w (scrubAs mov cs))
  | some (.hole kd xss i b) => match mem mov b with
    | true => none
    | false => some (.hole kd xss i b)
  | b => b

def isMov (mov : List Nat) (t : Nat) : Bool := mem mov t

/-- At the head again, or where the loop is left: which block is which? -/
def viewsOk (mov : List Nat) : Nat → List View → Bool
  | _, [] => true
  | t, .none :: vs => viewsOk mov (t + 1) vs
  | t, .whole id :: vs => (Nat.beq t id || mem mov t) && viewsOk mov (t + 1) vs
  | t, .empty :: vs => mem mov t && viewsOk mov (t + 1) vs
  | _, .part _ _ _ :: _ => false

/-- At first. -/
def viewsIn (mov : List Nat) (nx : Nat) : Nat → List View → Bool
  | _, [] => true
  | t, .none :: vs => viewsIn mov nx (t + 1) vs
  | t, .whole id :: vs => (Nat.beq t id || (mem mov t && Nat.ble nx t)) && viewsIn mov nx (t + 1) vs
  | t, .empty :: vs => mem mov t && (Nat.ble nx t && viewsIn mov nx (t + 1) vs)
  | _, .part _ _ _ :: _ => false

/-- The blocks that have views. -/
def wholeIds : List View → List Nat
  | [] => []
  | .whole id :: r => id :: wholeIds r
  | _ :: r => wholeIds r

/-- Just the named blocks have views. -/
def namedOnly (l : List Nat) : Nat → List View → Bool
  | _, [] => true
  | t, .none :: vs => namedOnly l (t + 1) vs
  | t, _ :: vs => mem l t && namedOnly l (t + 1) vs

def ids : List (Nat × BPat) → List Nat
  | [] => []
  | (t, _) :: r => t :: ids r

def noRo : Pat → Bool
  | .roi _ _ => false
  | .froi _ _ => false
  | .ror _ => false
  | _ => true

def noRos : List Pat → Bool
  | [] => true
  | p :: r => noRo p && noRos r

def noRoV : VPat → Bool
  | .at p => noRo p
  | .agg ps => noRos ps
  | .tup _ => false

def noRoS : List (Nat × VPat) → Bool
  | [] => true
  | (_, p) :: r => noRoV p && noRoS r

def noRoB : List (Nat × BPat) → Bool
  | [] => true
  | (_, .recs _ _ _) :: _ => false
  | (_, .frecs _ _ _) :: _ => false
  | (_, .fhole _ _ _ _) :: _ => false
  | (_, .cells _ ps) :: r => noRos ps && noRoB r
  | (_, _) :: r => noRoB r

/-- Is nothing told of what is only read, where a loop is left? -/
def Ann.plain (A : Ann) : Bool := noRoS A.xslots && noRoB A.xblks
/-- Else nothing may be lent. -/
def Ann.lentOk (A : Ann) (l : List Nat) : Bool := A.plain || noLent l

/-- The shapes of a loop are held against what stands at its head, or where it is left. -/
def mState {Y : Type} (n : Nat) (H : Heap) (Lc : Option Leaves) (F : Fr) (slots : List (Nat × VPat)) (blks : List (Nat × BPat)) (k : MS → Option Y) : Option Y :=
  mSlots H Lc F slots (MS.start n) fun m => mBlks H Lc blks m k

abbrev EvC := (Z : Type) → KS Z → (Ex → KS Z) → Fr → Heap → Nat → Option Z

/-- The rounds of a loop. -/
def loopF (A : Ann) (Lc : Leaves) (body : EvC) : Nat → Leaves → Option A.T
  | 0, _ => none
  | n + 1, L => body A.T (fun _ _ _ => none) (fun ex F H _ => match ex with
      | .normal => mState A.nx H (some Lc) F A.slots A.blks fun m =>
          gate (namedOnly (ids A.blks) 0 m.σ && (viewsOk A.mov 0 m.σ && viewsApart m.σ)) (gate (lentApart m.σ m.lent) (loopF A Lc body n m.leaves))
      | .exit id => gate (Nat.beq id A.exId) (mState A.nx H (some Lc) F A.xslots A.xblks fun m =>
          gate (namedOnly (ids A.blks) 0 m.σ && (viewsOk A.mov 0 m.σ && viewsApart m.σ)) (gate (lentApart m.σ m.lent) (some (A.dec m.leaves)))))
      (fSlots L Lc noFr A.slots) (fHeap L Lc noHeap A.blks) A.nx

/-- .. of one that may return. -/
def loopR {Y : Type} (A : Ann) (Lc : Leaves) (body : EvC) (kr : KS Y) : Nat → Leaves → Option (A.T ⊕ Y)
  | 0, _ => none
  | n + 1, L => body (A.T ⊕ Y) (fun F H nx => omap (kr F H nx) .inr) (fun ex F H _ => match ex with
      | .normal => mState A.nx H (some Lc) F A.slots A.blks fun m =>
          gate (namedOnly (ids A.blks) 0 m.σ && (viewsOk A.mov 0 m.σ && viewsApart m.σ)) (gate (lentApart m.σ m.lent) (loopR A Lc body kr n m.leaves))
      | .exit id => gate (Nat.beq id A.exId) (mState A.nx H (some Lc) F A.xslots A.xblks fun m =>
          gate (namedOnly (ids A.blks) 0 m.σ && (viewsOk A.mov 0 m.σ && viewsApart m.σ)) (gate (lentApart m.σ m.lent) (some (.inl (A.dec m.leaves))))))
      (fSlots L Lc noFr A.slots) (fHeap L Lc noHeap A.blks) A.nx

def unrollF {Y : Type} (body : EvC) (kr : KS Y) (k : Ex → KS Y) : Nat → Fr → Heap → Nat → Option Y
  | 0, _, _, _ => none
  | n + 1, F, H, nx => body Y kr (fun ex F H nx => match ex with
      | .normal => unrollF body kr k n F H nx
      | .exit id => k (.exit id) F H nx) F H nx

/-- Behind a loop. -/
def frBehind (A : Ann) (c : Code) (L Lc : Leaves) (F : Fr) : Fr :=
  fSlots L Lc (fun j => match asg c j with
    | true => .at .unk
    | false => scrubAV A.mov (F j)) A.xslots

def heapBehind (A : Ann) (G : List Nat) (L Lc : Leaves) (H : Heap) : Heap :=
  fHeap L Lc (fun id => match mem (ids A.blks) id || mem G id with
    | true => none
    | false => scrubB A.mov (H id)) A.xblks

def distinct : List Nat → Bool
  | [] => true
  | t :: r => !mem r t && distinct r

def allLive : List (Nat × BPat) → Bool
  | [] => true
  | (_, .dead) :: _ => false
  | _ :: r => allLive r

/-- Only these may move: those that are new, those that are told of. -/
def movOk (C : Cfg) : List Nat → Bool
  | [] => true
  | t :: r => (Nat.ble C.hi t || mem C.mv t) && movOk C r

def annOk (C : Cfg) (A : Ann) : Bool :=
  allLive A.blks && (movOk C A.mov && (distinct (ids A.blks) && distinct (ids A.xblks)))

/-- Inside a loop. -/
def Cfg.inLoop (C : Cfg) (A : Ann) : Cfg := { C with hi := A.nx, mv := A.mov }

/-- A name for what stands at a loop that nothing is told of. -/
def noAnn {Y : Type} (_rid : Nat) (_F : Fr) (_H : Heap) (_nx : Nat) : Option Y := none

noncomputable def evCode (C : Cfg) (K : FCfg) (inl : Inl) : Code → EvC
  | .skip, _, _, k, F, H, nx => k .normal F H nx
  | .region _ ops draw, _, _, k, F, H, nx => match draw with
    | false => evOps C K inl ops.toList ops.toList F H nx (k .normal)
    | true => evDraw C K ops.toList F H nx (k .normal)
  | .seq a b, Z, kr, k, F, H, nx => evCode C K inl a Z kr (fun ex F H nx => match ex with
    | .normal => evCode C K inl b Z kr k F H nx
    | .exit id => k (.exit id) F H nx) F H nx
  | .cond c t e, Z, kr, k, F, H, nx => match evOpd F c with
    | .at (.bool b) => br b (evCode C K inl t Z kr k F H nx) (evCode C K inl e Z kr k F H nx)
    | _ => none
  | .block id c, Z, kr, k, F, H, nx => evCode C K inl c Z kr (fun ex F H nx => match ex with
    | .normal => k .normal F H nx
    | .exit id' => match Nat.beq id' id with
      | true => k .normal F H nx
      | false => k (.exit id') F H nx) F H nx
  | .loop c, Z, kr, k, F, H, nx => match find K.anns (ridOf c) with
    | some A => gate (annOk C A && Nat.ble nx A.nx) (mState A.nx H none F A.slots A.blks fun m =>
        gate (namedOnly (ids A.blks) 0 m.σ && (viewsIn A.mov nx 0 m.σ && (viewsApart m.σ && (lentApart m.σ m.lent && A.lentOk m.lent)))) (match A.ret with
          | false => obind (loopF A m.fixed (evCode (C.inLoop A) K inl c) C.N m.leaves) fun t =>
              k (.exit A.exId) (frBehind A c (A.enc t) m.fixed F) (heapBehind A (wholeIds m.σ) (A.enc t) m.fixed H) A.nx
          | true => osum (loopR A m.fixed (evCode (C.inLoop A) K inl c) kr C.N m.leaves) fun t =>
              k (.exit A.exId) (frBehind A c (A.enc t) m.fixed F) (heapBehind A (wholeIds m.σ) (A.enc t) m.fixed H) A.nx))
    | none => match findN K.unr (ridOf c) with
      | some n => unrollF (evCode C K inl c) kr k n F H nx
      | none => noAnn (ridOf c) F H nx
  | .exit id, _, _, k, F, H, nx => k (.exit id) F H nx
  | .ret, _, kr, _, F, H, nx => kr F H nx
  | _, _, _, _, _, _, _ => none

/-! ### Functions -/
def entryF (args : List AV) : Fr := fun j => nthD (.at .unk) args j

def resVars {Y : Type} (P : Program) (H : Heap) (F : Fr) : List ResultVar → (List AV → Option Y) → Option Y
  | [], k => k []
  | .tmp t :: r, k => resVars P H F r fun l => k (F t :: l)
  | .cell x t :: r, k => match F x with
    | .at a => evLoad P H t a fun v => resVars P H F r fun l => k (v :: l)
    | _ => none

def tupOf : List AV → Option (List (Bool × List Atom))
  | [] => some []
  | .at a :: r => match tupOf r with
    | some l => some ((false, [a]) :: l)
    | none => none
  | .agg as :: r => match tupOf r with
    | some l => some ((true, as) :: l)
    | none => none
  | .tup _ :: _ => none

def resA {Y : Type} (P : Program) (fn : Func) (F : Fr) (H : Heap) (k : AV → Option Y) : Option Y :=
  resVars P H F fn.results.toList fun l => match l with
    | [v] => k v
    | l => match tupOf l with
      | some vs => k (.tup vs)
      | none => none

def dstOps (n : Nat) : List Oper → Bool
  | [] => true
  | o :: os => (match o.dst with
    | some d => Nat.blt d n
    | none => true) && dstOps n os

/-- Each slot that is written is one of the frame's. -/
def dstsOk (n : Nat) : Code → Bool
  | .region _ ops _ => dstOps n ops.toList
  | .seq a b => dstsOk n a && dstsOk n b
  | .cond _ t e => dstsOk n t && dstsOk n e
  | .block _ c => dstsOk n c
  | .loop c => dstsOk n c
  | _ => true

noncomputable def evFn (C : Cfg) (K : FCfg) (inl : Inl) (fn : Func) {Y : Type} (args : List AV) (H : Heap) (nx : Nat) (k : KC Y) : Option Y :=
  match fn.body with
  | some c => gate (dstsOk fn.ntmps c && Nat.ble (len args) fn.ntmps) (evCode C K inl c Y (fun F H nx => resA C.P fn F H fun v => k v H nx)
      (fun ex F H nx => match ex with
        | .normal => resA C.P fn F H fun v => k v H nx
        | .exit _ => none) (entryF args) H nx)
  | none => none

/-- Calls on the spot, so deep. -/
noncomputable def inlTab (C : Cfg) : Nat → Inl
  | 0 => fun _ _ _ _ _ _ => none
  | d + 1 => fun _ f args H nx k => match find C.inl f, C.P.funcs[f]? with
    | some K, some fn => evFn { C with hi := nx, mv := [] } K (inlTab C d) fn args H nx k
    | _, _ => none

/-- A function's shape without its meaning. -/
structure Sig where
  args : List VPat
  n : Nat
  pre : List (Nat × BPat)
  post : List (Nat × BPat)
  m : Nat
  ret : VPat

def isDead (l : List (Nat × BPat)) (t : Nat) : Bool :=
  match l with
  | [] => true
  | (t', .dead) :: r => match Nat.beq t t' with
    | true => true
    | false => isDead r t
  | (t', _) :: r => match Nat.beq t t' with
    | true => false
    | false => isDead r t

/-- The blocks that came in and are told of behind the call. -/
def wholes (l : List (Nat × BPat)) : Nat → Nat → List View
  | _, 0 => []
  | t, n + 1 => (match isDead l t with
    | true => .none
    | false => .whole t) :: wholes l (t + 1) n

def appV : List View → List View → List View
  | [], ys => ys
  | x :: xs, ys => x :: appV xs ys

def MS.startFn (l : List (Nat × BPat)) (n m : Nat) : MS := { MS.start 0 with σ := appV (wholes l 0 n) (nones m) }

/-- Where a function ends, its shape is held against what stands there. -/
def sigK (s : Sig) (L : Leaves) {R : Type} (dec : Leaves → R) : KC R := fun v H _ =>
  mAV H (some L) s.ret v (MS.startFn s.post s.n s.m) fun m => mBlks H (some L) s.post m fun m =>
    gate (namedOnly (idsLive s.post) 0 m.σ && (viewsApart m.σ && noLent m.lent)) (partsIn H m.σ (some (dec m.leaves)))

/-- What a function comes to, by its shape. -/
noncomputable def evSig (C : Cfg) (K : FCfg) (d : Nat) (fn : Func) (s : Sig) (L : Leaves) {R : Type} (dec : Leaves → R) : Option R :=
  evFn C K (inlTab C d) fn (fAVs L L s.args) (fHeap L L noHeap s.pre) s.n (sigK s L dec)

/-- A function's returns, for its loops. -/
def sigKr (P : Program) (fn : Func) (s : Sig) (L : Leaves) {R : Type} (dec : Leaves → R) : KS R := fun F H nx => resA P fn F H fun v => sigK s L dec v H nx

def lawK : KC Bool := fun v _ _ => match v with
  | .at (.bool b) => some b
  | _ => none

/-- What a law comes to. -/
noncomputable def evLaw (C : Cfg) (K : FCfg) (d : Nat) (fn : Func) (args : List AV) : Option Bool :=
  evFn C K (inlTab C d) fn args noHeap 0 lawK

def lawKr (P : Program) (fn : Func) : KS Bool := fun F H nx => resA P fn F H fun v => lawK v H nx

/-- A loop in a code, by its first region. -/
def loopAt (rid : Nat) : Code → Option Code
  | .seq a b => match loopAt rid a with
    | some c => some c
    | none => loopAt rid b
  | .block _ c => loopAt rid c
  | .cond _ t e => match loopAt rid t with
    | some c => some c
    | none => loopAt rid e
  | .loop c => match Nat.beq (ridOf c) rid with
    | true => match loopAt rid c with
      | some c' => some c'
      | none => some c
    | false => loopAt rid c
  | _ => none

def bodyAt (rid : Nat) (fn : Func) : Code :=
  match fn.body with
  | some c => match loopAt rid c with
    | some b => b
    | none => .skip
  | none => .skip

end Go.Eng
