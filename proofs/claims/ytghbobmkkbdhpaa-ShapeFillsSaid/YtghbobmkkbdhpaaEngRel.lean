/-
  The engine, part two: what an abstract state says of a world; nothing is claimed of the program here.
  Conditions: none.
-/
import Derived.Test.YtghbobmkkbdhpaaEngEval
set_option linter.unusedSimpArgs false
set_option linter.unusedVariables false
namespace Go.Eng

/-! ### The evaluator's own list words -/
theorem nth_eq {α : Type} : ∀ (l : List α) (n : Nat), nth l n = l[n]?
  | [], _ => by simp [nth]
  | x :: xs, 0 => by simp [nth]
  | x :: xs, n + 1 => by simp [nth, nth_eq xs n]

theorem nthD_eq {α : Type} (d : α) : ∀ (l : List α) (n : Nat), nthD d l n = l.getD n d
  | [], _ => by simp [nthD]
  | x :: xs, 0 => by simp [nthD]
  | x :: xs, n + 1 => by simpa [nthD] using nthD_eq d xs n

theorem setNth_eq {α : Type} : ∀ (l : List α) (n : Nat) (y : α), setNth l n y = l.set n y
  | [], _, _ => by simp [setNth]
  | x :: xs, 0, y => by simp [setNth]
  | x :: xs, n + 1, y => by simp [setNth, setNth_eq xs n y]

theorem lenA_eq : ∀ l : List Atom, lenA l = l.length
  | [] => rfl
  | _ :: xs => by simp [lenA, lenA_eq xs]

theorem len_eq {α : Type} : ∀ l : List α, len l = l.length
  | [] => rfl
  | _ :: xs => by simp [len, len_eq xs]

theorem snoc_eq {α : Type} : ∀ (l : List α) (y : α), snoc l y = l ++ [y]
  | [], _ => rfl
  | x :: xs, y => by simp [snoc, snoc_eq xs y]

theorem takeA_eq : ∀ (n : Nat) (l : List Atom), takeA n l = l.take n
  | 0, l => by simp [takeA]
  | n + 1, [] => by simp [takeA]
  | n + 1, x :: xs => by simp [takeA, takeA_eq n xs]

theorem dropA_eq : ∀ (n : Nat) (l : List Atom), dropA n l = l.drop n
  | 0, l => by simp [dropA]
  | n + 1, [] => by simp [dropA]
  | n + 1, x :: xs => by simp [dropA, dropA_eq n xs]

theorem eqK_iff {a b : IntKind} : eqK a b = true ↔ a = b := by cases a <;> cases b <;> simp [eqK]

theorem gate_some {Y : Type} {b : Bool} {k : Option Y} {y : Y} : gate b k = some y ↔ b = true ∧ k = some y := by
  cases b <;> simp [gate]

theorem chk_some {Y : Type} {c : Prop} [Decidable c] {k : Option Y} {y : Y} : chk c k = some y ↔ c ∧ k = some y := by
  unfold chk
  split <;> simp_all

theorem chkI_some {Y : Type} {a b : Int} {k : Option Y} {y : Y} : chkI a b k = some y ↔ a = b ∧ k = some y := by
  unfold chkI
  split <;> simp_all

theorem chkB_some {Y : Type} {a b : Bool} {k : Option Y} {y : Y} : chkB a b k = some y ↔ a = b ∧ k = some y := by
  unfold chkB
  split <;> simp_all

theorem chkN_some {Y : Type} {a b : Nat} {k : Option Y} {y : Y} : chkN a b k = some y ↔ a = b ∧ k = some y := by
  unfold chkN
  split <;> simp_all

theorem chkL_some {Y : Type} {a b : List Int} {k : Option Y} {y : Y} : chkL a b k = some y ↔ a = b ∧ k = some y := by
  unfold chkL
  split <;> simp_all

theorem chkR_some {Y : Type} {a b : List (List Int)} {k : Option Y} {y : Y} : chkR a b k = some y ↔ a = b ∧ k = some y := by
  unfold chkR
  split <;> simp_all

theorem obind_some {X Y : Type} {x : Option X} {k : X → Option Y} {y : Y} : obind x k = some y ↔ ∃ a, x = some a ∧ k a = some y := by
  cases x <;> simp [obind]

theorem putF_same (F : Fr) (d : Nat) (v : AV) : putF F d v d = v := by simp [putF]
theorem putF_other {F : Fr} {d j : Nat} {v : AV} (h : j ≠ d) : putF F d v j = F j := by
  have : Nat.beq j d = false := by
    cases hb : Nat.beq j d with
    | false => rfl
    | true => exact absurd (Nat.eq_of_beq_eq_true hb) h
  simp [putF, this]

theorem putH_same (H : Heap) (d : Nat) (v : Option Blk) : putH H d v d = v := by simp [putH]
theorem putH_other {H : Heap} {d j : Nat} {v : Option Blk} (h : j ≠ d) : putH H d v j = H j := by
  have : Nat.beq j d = false := by
    cases hb : Nat.beq j d with
    | false => rfl
    | true => exact absurd (Nat.eq_of_beq_eq_true hb) h
  simp [putH, this]

theorem putH_eq (H : Heap) (d : Nat) (v : Option Blk) (j : Nat) : putH H d v j = if j = d then v else H j := by
  by_cases h : j = d
  · subst h; simp [putH_same]
  · simp [putH_other h, h]

theorem putF_eq (F : Fr) (d : Nat) (v : AV) (j : Nat) : putF F d v j = if j = d then v else F j := by
  by_cases h : j = d
  · subst h; simp [putF_same]
  · simp [putF_other h, h]

/-! ### Environments -/
/-- Where a block lies: its memory's block, its first cell, how many elements, the room of its slice, the cells of an element; is the room its own? -/
structure Info where
  cb : Nat
  coff : Nat
  n : Nat
  cap : Nat
  w : Nat
  grow : Bool

/-- Where the blocks lie; the cells that stay as they are. -/
structure Env where
  info : Nat → Option Info
  M : Addr → Option Value

structure Env.Le (E E' : Env) : Prop where
  info : ∀ id I, E.info id = some I → E'.info id = some I
  M : ∀ a v, E.M a = some v → E'.M a = some v

theorem Env.Le.refl (E : Env) : E.Le E := ⟨fun _ _ h => h, fun _ _ h => h⟩
theorem Env.Le.trans {A B C : Env} (h : A.Le B) (k : B.Le C) : A.Le C :=
  ⟨fun id I hi => k.info id I (h.info id I hi), fun a v ha => k.M a v (h.M a v ha)⟩

/-- A value of one cell is what an atom says. -/
inductive R (RT : RoTab) (E : Env) : Atom → Value → Prop where
  | unk (v : Value) : R RT E .unk v
  | bool (b : Bool) : R RT E (.bool b) (.bool b)
  | int (k : IntKind) (n : Int) : R RT E (.int k n) (.int k n)
  | str (s : ByteArray) : R RT E (.str s) (.string s)
  | nilp : R RT E .nilp (.pointer none)
  | ptr {id off : Nat} {I : Info} (h : E.info id = some I) : R RT E (.ptr id off) (.pointer (some ⟨I.cb, I.coff + off, none⟩))
  | eptr {id i j : Nat} {I : Info} (h : E.info id = some I) (hi : i < I.n) (hj : j < I.w) :
      R RT E (.eptr id i j) (.pointer (some ⟨I.cb, I.coff + (i * I.w + j), none⟩))
  | nils : R RT E .nils (.slice none 0 0)
  | full {id cap : Nat} {nn : Bool} {I : Info} {base : Option Addr} (h : E.info id = some I)
      (hb : base = some ⟨I.cb, I.coff, none⟩ ∨ (I.n = 0 ∧ (I.grow = true → I.cap = 0))) (hn : nn = true → base.isSome = true) (hc : I.n ≤ cap) (hg : I.grow = true → cap = I.cap) :
      R RT E (.full id nn) (.slice base I.n cap)
  | sub {id lo len cap : Nat} {I : Info} {base : Option Addr} (h : E.info id = some I) (hw : I.w = 1) (hl : lo + len ≤ I.n) (hc : len ≤ cap)
      (hb : base = some ⟨I.cb, I.coff + lo * I.w, none⟩ ∨ len = 0) : R RT E (.sub id lo len) (.slice base len cap)
  | roi {k : IntKind} {xs : List Int} {cap : Nat} {base : Option Addr} (hc : xs.length ≤ cap)
      (hx : ∀ i, i < xs.length → ∃ a, base = some a ∧ a.spot = none ∧ E.M ⟨a.block, a.off + i, none⟩ = some (.int k (xs.getD i 0))) :
      R RT E (.roi k xs) (.slice base xs.length cap)
  | ror {tag : Nat} {T : RoT} {cap : Nat} {base : Option Addr} (u : Nat → Nat → Value) (hT : RT tag = some T) (hc : T.n ≤ cap)
      (hx : ∀ i j, i < T.n → j < T.w → ∃ a, base = some a ∧ a.spot = none ∧ E.M ⟨a.block, a.off + (i * T.w + j), none⟩ = some (u i j))
      (hr : ∀ i j, i < T.n → j < T.w → R RT E (T.f i j) (u i j)) : R RT E (.ror tag) (.slice base T.n cap)
  | rop {cs : List Atom} {a : Addr} (u : Nat → Value) (hs : a.spot = none)
      (hx : ∀ j x, cs[j]? = some x → E.M ⟨a.block, a.off + j, none⟩ = some (u j)) (hr : ∀ j x, cs[j]? = some x → R RT E x (u j)) :
      R RT E (.rop cs) (.pointer (some a))
  | fn {f : Fn} {cap : List Atom} {vs : Array Value} (hn : vs.size = cap.length) (hr : ∀ j x, cap[j]? = some x → R RT E x (vs.getD j undef)) :
      R RT E (.fn f cap) (.func f #[] vs)
  | nilf : R RT E .nilf .nilFunc
  | nili : R RT E .nili .nilIface
  | und : R RT E .und undef
  | ifa {t : TypeId} {x : Atom} {v : Value} (hr : R RT E x v) : R RT E (.iface t false [x]) (.iface t v)
  | ifg {t : TypeId} {cs : List Atom} {vs : Array Value} (hn : vs.size = cs.length) (hr : ∀ j x, cs[j]? = some x → R RT E x (vs.getD j undef)) :
      R RT E (.iface t true cs) (.iface t (.agg vs))

theorem R.mono {RT : RoTab} {E E' : Env} (h : E.Le E') {a : Atom} {v : Value} (hr : R RT E a v) : R RT E' a v := by
  induction hr with
  | unk v => exact .unk v
  | bool b => exact .bool b
  | int k n => exact .int k n
  | str s => exact .str s
  | nilp => exact .nilp
  | ptr h' => exact .ptr (h.info _ _ h')
  | eptr h' hi hj => exact .eptr (h.info _ _ h') hi hj
  | nils => exact .nils
  | full h' hb hn hc hg => exact .full (h.info _ _ h') hb hn hc hg
  | sub h' hw hl hc hb => exact .sub (h.info _ _ h') hw hl hc hb
  | roi hc hx => exact .roi hc fun i hi => let ⟨a, hb, hs, hm⟩ := hx i hi; ⟨a, hb, hs, h.M _ _ hm⟩
  | ror u hT hc hx hr ih => exact .ror u hT hc (fun i j hi hj => let ⟨a, hb, hs, hm⟩ := hx i j hi hj; ⟨a, hb, hs, h.M _ _ hm⟩) ih
  | rop u hs hx hr ih => exact .rop u hs (fun j x hj => h.M _ _ (hx j x hj)) ih
  | fn hn hr ih => exact .fn hn ih
  | nilf => exact .nilf
  | nili => exact .nili
  | und => exact .und
  | ifa hr ih => exact .ifa ih
  | ifg hn hr ih => exact .ifg hn ih

/-- Cells, one by one. -/
def RCs (RT : RoTab) (E : Env) (cs : List Atom) (vs : Array Value) : Prop :=
  vs.size = cs.length ∧ ∀ j x, cs[j]? = some x → R RT E x (vs.getD j undef)

theorem RCs.mono {RT : RoTab} {E E' : Env} (h : E.Le E') {cs : List Atom} {vs : Array Value} (hr : RCs RT E cs vs) : RCs RT E' cs vs :=
  ⟨hr.1, fun j x hj => (hr.2 j x hj).mono h⟩

/-- A part of several results. -/
def RP (RT : RoTab) (E : Env) (p : Bool × List Atom) (v : Value) : Prop :=
  match p with
  | (true, cs) => ∃ vs, v = .agg vs ∧ RCs RT E cs vs
  | (false, [a]) => R RT E a v
  | (false, _) => False

theorem RP.mono {RT : RoTab} {E E' : Env} (h : E.Le E') {p : Bool × List Atom} {v : Value} (hr : RP RT E p v) : RP RT E' p v := by
  obtain ⟨g, cs⟩ := p
  cases g with
  | true => obtain ⟨vs, rfl, hc⟩ := hr; exact ⟨vs, rfl, hc.mono h⟩
  | false =>
    match cs, hr with
    | [a], hr => exact R.mono (a := a) h hr

/-- A value is what an abstract one says. -/
def RV (RT : RoTab) (E : Env) (x : AV) (v : Value) : Prop :=
  match x with
  | .at a => R RT E a v
  | .agg cs => ∃ vs, v = .agg vs ∧ RCs RT E cs vs
  | .tup ps => ∃ vs, v = .tuple vs ∧ vs.size = ps.length ∧ ∀ j p, ps[j]? = some p → RP RT E p (vs.getD j undef)

theorem RV.mono {RT : RoTab} {E E' : Env} (h : E.Le E') {x : AV} {v : Value} (hr : RV RT E x v) : RV RT E' x v := by
  cases x with
  | «at» a => exact R.mono (a := a) h hr
  | agg cs => obtain ⟨vs, rfl, hc⟩ := hr; exact ⟨vs, rfl, hc.mono h⟩
  | tup ps => obtain ⟨vs, rfl, hn, hc⟩ := hr; exact ⟨vs, rfl, hn, fun j p hj => (hc j p hj).mono h⟩

theorem RV.unk {RT : RoTab} {E : Env} (v : Value) : RV RT E (.at .unk) v := R.unk v

/-- A frame is what an abstract one says. -/
def RF (RT : RoTab) (E : Env) (F : Fr) (a : Act) : Prop := ∀ t, RV RT E (F t) (a.tmps.getD t undef)

theorem RF.mono {RT : RoTab} {E E' : Env} (h : E.Le E') {F : Fr} {a : Act} (hr : RF RT E F a) : RF RT E' F a := fun t => (hr t).mono h

theorem getD_set_same {a : Array Value} {d : Nat} {v : Value} (h : d < a.size) : (a.setIfInBounds d v).getD d undef = v := by
  simp [Array.getD, h]
theorem getD_set_other {a : Array Value} {d j : Nat} {v : Value} (h : j ≠ d) : (a.setIfInBounds d v).getD j undef = a.getD j undef := by
  simp only [Array.getD_eq_getD_getElem?]
  rw [Array.getElem?_setIfInBounds_ne (Ne.symm h)]

/-- A slot is written. -/
theorem RF.put {RT : RoTab} {E : Env} {F : Fr} {a : Act} (hr : RF RT E F a) {d : Option Tmp} (hd : ∀ t, d = some t → t < a.tmps.size) {v : AV} {u : Value}
    (hv : RV RT E v u) : RF RT E (putO F d v) (a.put d u) := by
  cases d with
  | none => exact hr
  | some d =>
    intro t
    by_cases ht : t = d
    · subst ht
      simp only [putO, putF_same, Act.put]
      rw [getD_set_same (hd t rfl)]
      exact hv
    · simp only [putO, putF_other ht, Act.put]
      rw [getD_set_other ht]
      exact hr t

theorem Act.put_size (a : Act) (d : Option Tmp) (v : Value) : (a.put d v).tmps.size = a.tmps.size := by
  cases d <;> simp [Act.put]

theorem recAs_len : ∀ (ks : List IntKind) (rk : Option IntKind) (r r' : List Int), (recAs ks rk r).length = (recAs ks rk r').length
  | [], none, _, _ => rfl
  | [], some _, _, _ => rfl
  | _ :: ks, rk, r, r' => by simp only [recAs, List.length_cons, recAs_len ks rk r.tail r'.tail]
theorem recA_len (T : RecT) (r : List Int) : (recA T r).length = recW T := recAs_len T.ks T.rk r []
theorem eqKs_iff : ∀ {a b : List IntKind}, eqKs a b = true ↔ a = b
  | [], [] => by simp [eqKs]
  | [], _ :: _ => by simp [eqKs]
  | _ :: _, [] => by simp [eqKs]
  | a :: as, b :: bs => by simp [eqKs, eqK_iff, eqKs_iff (a := as) (b := bs)]
theorem eqT_iff {a b : RecT} : eqT a b = true ↔ a = b := by
  obtain ⟨ka, ra⟩ := a
  obtain ⟨kb, rb⟩ := b
  cases ra <;> cases rb <;> simp [eqT, eqKs_iff, eqK_iff]
theorem recAs_io : ∀ (ks : List IntKind) (rk : Option IntKind) (r : List Int) {j : Nat} {x : Atom}, (recAs ks rk r)[j]? = some x → (∃ k n, x = .int k n) ∨ (∃ k l, x = .roi k l)
  | [], none, _, _, _, h => by simp [recAs] at h
  | [], some k, r, 0, x, h => by simp [recAs] at h; exact Or.inr ⟨k, r, h.symm⟩
  | [], some k, r, j + 1, x, h => by simp [recAs] at h
  | k :: ks, rk, r, 0, x, h => by simp only [recAs, List.getElem?_cons_zero, Option.some.injEq] at h; exact Or.inl ⟨k, r.headD 0, h.symm⟩
  | k :: ks, rk, r, j + 1, x, h => by simp only [recAs, List.getElem?_cons_succ] at h; exact recAs_io ks rk r.tail h
/-- What such an element holds, it holds in another state too. -/
theorem recA_R {RT RT' : RoTab} {E E' : Env} {T : RecT} {r : List Int} {j : Nat} {x : Atom} {v : Value} (hx : (recA T r)[j]? = some x) (hM : ∀ a v, E.M a = some v → E'.M a = some v) (h : R RT E x v) : R RT' E' x v := by
  rcases recAs_io _ _ _ hx with ⟨k, n, rfl⟩ | ⟨k, l, rfl⟩
  · cases h; exact .int _ _
  · cases h with
    | roi hc hx => exact .roi hc fun i hi => let ⟨a, hb, hs, hm⟩ := hx i hi; ⟨a, hb, hs, hM _ _ hm⟩
theorem roi_R {RT RT' : RoTab} {E E' : Env} {k : IntKind} {l : List Int} {v : Value} (hM : ∀ a v, E.M a = some v → E'.M a = some v) (h : R RT E (.roi k l) v) : R RT' E' (.roi k l) v := by
  cases h with
  | roi hc hx => exact .roi hc fun i hi => let ⟨a, hb, hs, hm⟩ := hx i hi; ⟨a, hb, hs, hM _ _ hm⟩
theorem cell_in {i j n w : Nat} (hi : i < n) (hj : j < w) : i * w + j < n * w := by
  have : (i + 1) * w ≤ n * w := Nat.mul_le_mul_right w hi
  rw [Nat.add_mul, Nat.one_mul] at this
  omega

/-! ### Memory -/
/-- The cells that a block is the owner of. -/
def Own (I : Info) (x : Nat × Nat) : Prop := x.1 = I.cb ∧ I.coff ≤ x.2 ∧ x.2 < I.coff + (if I.grow then I.cap else I.n) * I.w

/-- A block lies in a world. -/
structure BlkOK (RT : RoTab) (E : Env) (b : Blk) (I : Info) (f : Nat × Nat → Prop) (w : World) : Prop where
  own : ∀ x, f x ↔ Own I x
  cap : I.n ≤ I.cap
  live : ∀ x, f x → ∃ v, w.cell? ⟨x.1, x.2, none⟩ = some v ∧ w.frozen? ⟨x.1, x.2, none⟩ = false
  kind : match b with
    | .cells wd cs => I.w = wd ∧ I.n * wd = cs.length ∧ I.grow = false ∧
        ∀ j x, cs[j]? = some x → ∃ v, w.cell? ⟨I.cb, I.coff + j, none⟩ = some v ∧ R RT E x v
    | .ints g k xs => I.w = 1 ∧ I.n = xs.length ∧ (g = true → I.grow = true) ∧
        ∀ j, j < xs.length → w.cell? ⟨I.cb, I.coff + j, none⟩ = some (.int k (xs.getD j 0))
    | .recs g T xss => I.w = recW T ∧ I.n = xss.length ∧ (g = true → I.grow = true) ∧
        ∀ i j x, i < xss.length → (recA T (xss.getD i []))[j]? = some x → ∃ v, w.cell? ⟨I.cb, I.coff + (i * I.w + j), none⟩ = some v ∧ R RT E x v
    | .hole kd xss hi b => I.w = 1 ∧ I.n = xss.length ∧
        ∀ i, i < xss.length → ∃ v, w.cell? ⟨I.cb, I.coff + i, none⟩ = some v ∧ R RT E (if i = hi then .full b true else .roi kd (xss.getD i [])) v

abbrev Fp := Nat → Nat × Nat → Prop

/-- A heap lies in a world. -/
structure Sim (RT : RoTab) (E : Env) (H : Heap) (fp : Fp) (w : World) : Prop where
  blk : ∀ id b, H id = some b → ∃ I, E.info id = some I ∧ BlkOK RT E b I (fp id) w
  disj : ∀ i j b c x, H i = some b → H j = some c → i ≠ j → fp i x → ¬ fp j x
  ro : ∀ a v, E.M a = some v → a.spot = none ∧ w.cell? a = some v ∧ ∀ i b, H i = some b → ¬ fp i (a.block, a.off)

def OwnAll (H : Heap) (fp : Fp) (x : Nat × Nat) : Prop := ∃ id b, H id = some b ∧ fp id x

/-- Ids from nx on are new. -/
def Fresh (E : Env) (nx : Nat) : Prop := ∀ id, nx ≤ id → E.info id = none

/-- Of what was there, nothing has turned but the cells O. -/
structure Frm (w : World) (O : Nat × Nat → Prop) (w' : World) : Prop where
  os : w'.os = w.os
  tape : w'.tape = w.tape
  output : w'.output = w.output
  size : w.heap.size ≤ w'.heap.size
  cells : ∀ (k : Nat) (c : Array Value) (t : TypeId) (fz : Nat × Nat), w.heap[k]? = some (Obj.cells c t fz) →
    ∃ c', w'.heap[k]? = some (.cells c' t fz) ∧ c'.size = c.size ∧ ∀ o, ¬ O (k, o) → c'[o]? = c[o]?
  other : ∀ (k : Nat) (o : Obj), w.heap[k]? = some o → (∀ c t fz, o ≠ Obj.cells c t fz) → w'.heap[k]? = some o

theorem Frm.refl (w : World) (O : Nat × Nat → Prop) : Frm w O w :=
  ⟨rfl, rfl, rfl, Nat.le_refl _, fun _ c _ _ h => ⟨c, h, rfl, fun _ _ => rfl⟩, fun _ _ h _ => h⟩

theorem heap_lt {w : World} {k : Nat} {o : Obj} (h : w.heap[k]? = some o) : k < w.heap.size := by
  rcases Nat.lt_or_ge k w.heap.size with h' | h'
  · exact h'
  · simp [Array.getElem?_eq_none h'] at h

theorem Frm.trans {w w' w'' : World} {O O' : Nat × Nat → Prop} (h : Frm w O w') (k : Frm w' O' w'') (ho : ∀ x, O' x → x.1 < w.heap.size → O x) : Frm w O w'' where
  os := k.os.trans h.os
  tape := k.tape.trans h.tape
  output := k.output.trans h.output
  size := Nat.le_trans h.size k.size
  cells := fun i c t fz hc => by
    obtain ⟨c', h1, h2, h3⟩ := h.cells i c t fz hc
    obtain ⟨c'', k1, k2, k3⟩ := k.cells i c' t fz h1
    refine ⟨c'', k1, k2.trans h2, fun o hno => ?_⟩
    rw [k3 o (fun hO => hno (ho _ hO (heap_lt hc))), h3 o hno]
  other := fun i o hi hk => k.other i o (h.other i o hi hk) hk

theorem Frm.mono {w w' : World} {O O' : Nat × Nat → Prop} (h : Frm w O w') (ho : ∀ x, O x → O' x) : Frm w O' w' :=
  { h with cells := fun i c t fz hc => let ⟨c', h1, h2, h3⟩ := h.cells i c t fz hc; ⟨c', h1, h2, fun o hno => h3 o fun hO => hno (ho _ hO)⟩ }

/-- A cell that stays reads as it did. -/
theorem Frm.cell {w w' : World} {O : Nat × Nat → Prop} (h : Frm w O w') {a : Addr} {v : Value} (hc : w.cell? a = some v) (hO : ¬ O (a.block, a.off)) : w'.cell? a = some v := by
  unfold World.cell? at hc
  split at hc
  · rename_i c t fz hb
    obtain ⟨c', h1, h2, h3⟩ := h.cells _ _ _ _ hb
    unfold World.cell?
    rw [h1]
    simp only []
    split at hc
    · simp at hc
    · rename_i hs
      rw [if_neg hs, h3 _ hO]
      exact hc
  · simp at hc

/-- .. stays a cell. -/
theorem Frm.live {w w' : World} {O : Nat × Nat → Prop} (h : Frm w O w') {a : Addr} {v : Value} (hc : w.cell? a = some v) : ∃ v', w'.cell? a = some v' := by
  unfold World.cell? at hc
  split at hc
  · rename_i c t fz hb
    obtain ⟨c', h1, h2, h3⟩ := h.cells _ _ _ _ hb
    unfold World.cell?
    rw [h1]
    simp only []
    split at hc
    · simp at hc
    · rename_i hs
      rw [if_neg hs]
      have hlt : a.off < c.size := by
        rcases Nat.lt_or_ge a.off c.size with h' | h'
        · exact h'
        · simp [Array.getElem?_eq_none h'] at hc
      exact ⟨c'[a.off]'(by omega), by simp [h2, hlt]⟩
  · simp at hc

theorem Frm.frozen {w w' : World} {O : Nat × Nat → Prop} (h : Frm w O w') {a : Addr} (hlt : a.block < w.heap.size) : w'.frozen? a = w.frozen? a := by
  unfold World.frozen?
  cases hb : w.heap[a.block]? with
  | none => simp [Array.getElem?_eq_none_iff] at hb; omega
  | some o =>
    cases o with
    | cells c t fz => obtain ⟨c', h1, _⟩ := h.cells _ _ _ _ hb; rw [h1]
    | _ => rw [h.other _ _ hb (by simp)]

/-- What stays as it is now did so before, or is new memory, or was a block's. -/
def MExt (E : Env) (H : Heap) (fp : Fp) (w : World) (E' : Env) : Prop :=
  ∀ a v, E'.M a = some v → E.M a = some v ∨ w.heap.size ≤ a.block ∨ OwnAll H fp (a.block, a.off)

theorem MExt.refl (E : Env) (H : Heap) (fp : Fp) (w : World) : MExt E H fp w E := fun _ _ h => Or.inl h

theorem MExt.trans {E E' E'' : Env} {H H' : Heap} {fp fp' : Fp} {w w' : World} (h : MExt E H fp w E') (k : MExt E' H' fp' w' E'') (hsz : w.heap.size ≤ w'.heap.size)
    (own : ∀ x, OwnAll H' fp' x → x.1 < w.heap.size → OwnAll H fp x) : MExt E H fp w E'' := by
  intro a v hv
  rcases k a v hv with h1 | h1 | h1
  · exact h a v h1
  · exact Or.inr (Or.inl (Nat.le_trans hsz h1))
  · rcases Nat.lt_or_ge a.block w.heap.size with hl | hl
    · exact Or.inr (Or.inr (own _ h1 hl))
    · exact Or.inr (Or.inl hl)

/-- From one state to a later one. -/
structure Step (E : Env) (H : Heap) (fp : Fp) (w : World) (nx : Nat) (E' : Env) (H' : Heap) (fp' : Fp) (w' : World) (nx' : Nat) : Prop where
  le : E.Le E'
  frm : Frm w (OwnAll H fp) w'
  own : ∀ x, OwnAll H' fp' x → x.1 < w.heap.size → OwnAll H fp x
  nx : nx ≤ nx'
  fresh : Fresh E' nx'
  ext : MExt E H fp w E'

theorem Step.refl {E : Env} {H : Heap} {fp : Fp} {w : World} {nx : Nat} (hf : Fresh E nx) : Step E H fp w nx E H fp w nx :=
  ⟨.refl E, .refl w _, fun _ h _ => h, Nat.le_refl _, hf, .refl _ _ _ _⟩

theorem Step.trans {E E' E'' : Env} {H H' H'' : Heap} {fp fp' fp'' : Fp} {w w' w'' : World} {nx nx' nx'' : Nat}
    (h : Step E H fp w nx E' H' fp' w' nx') (k : Step E' H' fp' w' nx' E'' H'' fp'' w'' nx'') : Step E H fp w nx E'' H'' fp'' w'' nx'' where
  le := h.le.trans k.le
  frm := h.frm.trans k.frm h.own
  own := fun x hx hlt => h.own x (k.own x hx (Nat.lt_of_lt_of_le hlt h.frm.size)) hlt
  nx := Nat.le_trans h.nx k.nx
  fresh := k.fresh
  ext := h.ext.trans k.ext h.frm.size h.own

end Go.Eng
