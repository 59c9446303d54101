/-
  The engine, part three: the operations that only look do what the evaluator says.
  Conditions: none; nothing is claimed of the program here.
-/
import Derived.Test.YtghbobmkkbdhpaaEngRel
import Derived.Laws.Sem
import Derived.Laws.Cells
import Derived.Laws.Small
set_option linter.unusedSimpArgs false
set_option linter.unusedVariables false
namespace Go.Eng

theorem atomOf_R (RT : RoTab) (E : Env) (v : Value) : R RT E (atomOf v) v := by
  cases v with
  | bool b => exact .bool b
  | int k n => exact .int k n
  | string s => exact .str s
  | pointer a => cases a with
    | none => exact .nilp
    | some a => exact .unk _
  | slice a len cap =>
    cases a with
    | some a => exact .unk _
    | none =>
      cases len with
      | succ n => exact .unk _
      | zero => cases cap with
        | zero => exact .nils
        | succ n => exact .unk _
  | nilFunc => exact .nilf
  | nilIface => exact .nili
  | _ => exact .unk _

theorem atomsOf_eq : ∀ l : List Value, atomsOf l = l.map atomOf
  | [] => rfl
  | v :: vs => by simp [atomsOf, atomsOf_eq vs]

theorem RCs_atomsOf (RT : RoTab) (E : Env) (cs : Array Value) : RCs RT E (atomsOf cs.toList) cs := by
  refine ⟨by simp [atomsOf_eq], fun j x hj => ?_⟩
  rw [atomsOf_eq, List.getElem?_map] at hj
  cases hc : cs.toList[j]? with
  | none => simp [hc] at hj
  | some v =>
    simp only [hc, Option.map_some, Option.some.injEq] at hj
    subst hj
    have : cs.getD j undef = v := by
      simp only [Array.getElem?_toList] at hc
      simp [Array.getD_eq_getD_getElem?, hc]
    rw [this]
    exact atomOf_R RT E v

theorem avOf_RV (RT : RoTab) (E : Env) (v : Value) : RV RT E (avOf v) v := by
  cases v with
  | agg cs => exact ⟨cs, rfl, RCs_atomsOf RT E cs⟩
  | bool b => exact atomOf_R RT E _
  | int k n => exact atomOf_R RT E _
  | float k b => exact atomOf_R RT E _
  | complex k a b => exact atomOf_R RT E _
  | string s => exact atomOf_R RT E _
  | pointer a => exact atomOf_R RT E _
  | slice a l c => exact atomOf_R RT E _
  | map r => exact atomOf_R RT E _
  | chan r => exact atomOf_R RT E _
  | func f a b => exact atomOf_R RT E _
  | nilFunc => exact atomOf_R RT E _
  | iface t v => exact atomOf_R RT E _
  | nilIface => exact atomOf_R RT E _
  | tuple vs => exact atomOf_R RT E _

theorem R.int_inv {RT : RoTab} {E : Env} {k : IntKind} {n : Int} {v : Value} (h : R RT E (.int k n) v) : v = .int k n := by cases h; rfl
theorem R.ptr_inv {RT : RoTab} {E : Env} {id off : Nat} {v : Value} (h : R RT E (.ptr id off) v) : ∃ I, E.info id = some I ∧ v = .pointer (some ⟨I.cb, I.coff + off, none⟩) := by cases h with | ptr h => exact ⟨_, h, rfl⟩
theorem R.iface_inv {RT : RoTab} {E : Env} {t : TypeId} {x : Atom} {v : Value} (h : R RT E (.iface t false [x]) v) : ∃ u, v = .iface t u ∧ R RT E x u := by cases h; exact ⟨_, rfl, by assumption⟩
theorem R.bool_inv {RT : RoTab} {E : Env} {b : Bool} {v : Value} (h : R RT E (.bool b) v) : v = .bool b := by cases h; rfl

variable {RT : RoTab} {E : Env} {F : Fr} {a : Act} {H : Heap} {fp : Fp} {w : World} {P : Program} {Y : Type} {y : Y}

theorem opd_sound (h : RF RT E F a) (x : Operand) : RV RT E (evOpd F x) (a.eval x) := by
  cases x with
  | tmp t => exact h t
  | const v => exact avOf_RV RT E v
  | global g => exact R.unk _
  | func f => exact R.fn (by simp) (by simp)

theorem run_und {t : TypeId} {d : TypeDesc} (h : P.underlying t = some d) : (underlying t).run P w = .ok d w := by
  simp [underlying, h]

theorem run_isAgg {t : TypeId} {b : Bool} (h : aggT P t = some b) : (isAgg t).run P w = .ok b w := by
  unfold aggT at h
  cases hu : P.underlying t with
  | none => simp [hu] at h
  | some d =>
    simp only [isAgg, Sem.run_bind, run_und hu, Result.andThen_ok]
    cases d <;> simp [hu] at h <;> subst h <;> rfl

theorem has_of_und {t : TypeId} {d : TypeDesc} (h : P.underlying t = some d) : hasT P t = true := by
  unfold Program.underlying at h
  unfold hasT
  cases hi : P.info? t with
  | none => simp [hi] at h
  | some i => rfl

theorem run_size {t : TypeId} (h : hasT P t = true) : (sizeOf t).run P w = .ok (sizeT P t) w := by
  unfold hasT at h
  cases hi : P.info? t with
  | none => simp [hi] at h
  | some i => simp [sizeOf, typeInfo, sizeT, Program.cellsOf, hi]

theorem agg_has {t : TypeId} {b : Bool} (h : aggT P t = some b) : hasT P t = true := by
  unfold aggT at h
  cases hu : P.underlying t with
  | none => simp [hu] at h
  | some d => exact has_of_und hu

theorem notAgg_iff {t : TypeId} : notAgg P t = true ↔ aggT P t = some false := by
  unfold notAgg
  split <;> simp_all

/-- A value is read out of memory. -/
theorem loadVar_sound {t : TypeId} {cs : List Atom} {off : Nat} {k : AV → Option Y} {ad : Addr} (hk : partA P t cs off k = some y)
    (hread : ∀ j x, cs[off + j]? = some x → ∃ v, w.cell? (ad.add j) = some v ∧ R RT E x v) :
    ∃ v u, k v = some y ∧ (loadVar t ad).run P w = .ok u w ∧ RV RT E v u := by
  unfold partA at hk
  split at hk
  · rename_i hg
    rw [gate_some] at hk
    obtain ⟨hle, hk⟩ := hk
    have hle' := Nat.le_of_ble_eq_true hle
    rw [lenA_eq] at hle'
    rw [takeA_eq, dropA_eq] at hk
    have hsz := agg_has hg
    have hex : ∀ j, j < sizeT P t → ∃ x v, cs[off + j]? = some x ∧ w.cell? (ad.add j) = some v ∧ R RT E x v := by
      intro j hj
      have hlt : off + j < cs.length := by omega
      obtain ⟨v, hv, hr⟩ := hread j cs[off + j] (by simp [hlt])
      exact ⟨_, v, by simp [hlt], hv, hr⟩
    let f : Nat → Value := fun j => (w.cell? (ad.add j)).getD undef
    have hf : ∀ j, j < sizeT P t → w.cell? (ad.add j) = some (f j) := by
      intro j hj
      obtain ⟨x, v, _, hv, _⟩ := hex j hj
      simp [f, hv]
    refine ⟨_, .agg ((Array.range (sizeT P t)).map f), hk, ?_, ?_⟩
    · have he : (List.map f (List.range (sizeT P t))).toArray = (Array.range (sizeT P t)).map f := by apply Array.ext'; simp
      simp only [loadVar, Sem.run_bind, run_isAgg hg, Result.andThen_ok, if_true, run_size hsz, run_loadCells w ad (sizeT P t) f hf, Sem.run_pure, he]
    · refine ⟨_, rfl, by simp; omega, fun j x hj => ?_⟩
      have hj' : j < sizeT P t := by
        rcases Nat.lt_or_ge j (sizeT P t) with h' | h'
        · exact h'
        · rw [List.getElem?_eq_none (by simp; omega)] at hj
          simp at hj
      rw [List.getElem?_take_of_lt hj', List.getElem?_drop] at hj
      obtain ⟨x', v, hx', hv, hr⟩ := hex j hj'
      rw [hj] at hx'
      obtain rfl := Option.some.inj hx'
      have : ((Array.range (sizeT P t)).map f).getD j undef = v := by
        simp [Array.getD, hj', f, hv]
      rw [this]
      exact hr
  · rename_i hg
    split at hk
    · rename_i x hx
      rw [nth_eq] at hx
      obtain ⟨v, hv, hr⟩ := hread 0 x (by simpa using hx)
      refine ⟨_, v, hk, ?_, hr⟩
      have : ad.add 0 = ad := rfl
      rw [this] at hv
      simp [loadVar, run_isAgg hg, hv]
    · simp at hk
  · simp at hk

theorem add_lit (b o n : Nat) : (⟨b, o, none⟩ : Addr).add n = ⟨b, o + n, none⟩ := by
  unfold Addr.add
  split
  · rename_i h; subst h; rfl
  · rfl

theorem load_sound {t : TypeId} {x : Atom} {u : Value} {k : AV → Option Y} (hs : Sim RT E H fp w) (hx : R RT E x u) (hk : evLoad P H t x k = some y) :
    ∃ v u', k v = some y ∧ (Instr.loadAt t u).run P w = .ok u' w ∧ RV RT E v u' := by
  cases hx with
  | ptr h =>
    rename_i id off I
    simp only [evLoad] at hk
    split at hk
    · rename_i wd cs hb
      obtain ⟨I', hI', ok⟩ := hs.blk _ _ hb
      rw [h] at hI'
      obtain rfl := Option.some.inj hI'
      obtain ⟨_, _, _, hc⟩ := ok.kind
      simp only [Instr.loadAt, Instr.sureAddr, Sem.run_bind, Sem.run_pure, Result.andThen_ok]
      refine loadVar_sound hk fun j x hj => ?_
      obtain ⟨v, hv, hr⟩ := hc _ _ hj
      rw [add_lit]
      exact ⟨v, by rw [← hv]; congr 2; omega, hr⟩
    · simp at hk
  | eptr h hi hj =>
    rename_i id i j I
    simp only [evLoad] at hk
    split at hk
    · rename_i g kd xs hb
      rw [gate_some] at hk
      obtain ⟨hg, hk⟩ := hk
      simp only [Bool.and_eq_true, notAgg_iff] at hg
      obtain ⟨h0, hg⟩ := hg
      obtain rfl := Nat.eq_of_beq_eq_true h0
      obtain ⟨I', hI', ok⟩ := hs.blk _ _ hb
      rw [h] at hI'
      obtain rfl := Option.some.inj hI'
      obtain ⟨hw, hn, _, hc⟩ := ok.kind
      have hv := hc i (by omega)
      refine ⟨_, _, hk, ?_, R.int kd (xs.getD i 0)⟩
      have : I.coff + (i * I.w + 0) = I.coff + i := by rw [hw]; omega
      rw [this]
      simp [Instr.loadAt, Instr.sureAddr, loadVar, run_isAgg hg, hv]
    · rename_i g T xss hb
      obtain ⟨I', hI', ok⟩ := hs.blk _ _ hb
      rw [h] at hI'
      obtain rfl := Option.some.inj hI'
      obtain ⟨hw, hn, _, hc⟩ := ok.kind
      simp only [Instr.loadAt, Instr.sureAddr, Sem.run_bind, Sem.run_pure, Result.andThen_ok]
      refine loadVar_sound hk fun j' x hj' => ?_
      obtain ⟨v, hv, hr⟩ := hc i (j + j') x (by omega) hj'
      rw [add_lit]
      exact ⟨v, by rw [← hv]; congr 2; omega, hr⟩
    · rename_i kd xss hi' b hb
      rw [gate_some] at hk
      obtain ⟨hg, hk⟩ := hk
      simp only [Bool.and_eq_true, notAgg_iff] at hg
      obtain ⟨h0, hg⟩ := hg
      obtain rfl := Nat.eq_of_beq_eq_true h0
      obtain ⟨I', hI', ok⟩ := hs.blk _ _ hb
      rw [h] at hI'
      obtain rfl := Option.some.inj hI'
      obtain ⟨hw, hn, hc⟩ := ok.kind
      obtain ⟨v, hv, hr⟩ := hc i (by omega)
      have : I.coff + (i * I.w + 0) = I.coff + i := by rw [hw]; omega
      rw [this]
      by_cases he : i = hi'
      · rw [decide_eq_true he] at hk
        rw [if_pos he] at hr
        exact ⟨_, v, hk, by simp [Instr.loadAt, Instr.sureAddr, loadVar, run_isAgg hg, hv], hr⟩
      · rw [decide_eq_false he] at hk
        rw [if_neg he] at hr
        exact ⟨_, v, hk, by simp [Instr.loadAt, Instr.sureAddr, loadVar, run_isAgg hg, hv], hr⟩
    · simp at hk
  | rop uu hsp hx hr =>
    rename_i cs ad
    simp only [evLoad] at hk
    simp only [Instr.loadAt, Instr.sureAddr, Sem.run_bind, Sem.run_pure, Result.andThen_ok]
    refine loadVar_sound hk fun j x hj => ?_
    rw [Nat.zero_add] at hj
    have hm := hx j x hj
    obtain ⟨b, o, sp⟩ := ad
    simp only at hsp
    subst hsp
    rw [add_lit]
    exact ⟨uu j, (hs.ro _ _ hm).2.1, hr j x hj⟩
  | _ => simp [evLoad] at hk

/-! ### Integers and the like -/
theorem eqGuard_run {op : BinOp} {t : TypeId} {x y : Operand} {u v : Value} (h : ∀ p q, ¬ (u = .nilIface ∧ v = .nilIface) ∧ ¬ (u = .agg p ∧ v = .agg q)) :
    (eqGuard op t x y u v).run P w = .ok () w := by
  unfold eqGuard
  cases op <;> simp only [Bool.not_true, Bool.not_false, Bool.false_eq_true, if_false, if_true, Sem.run_pure]
  all_goals
    split
    · exact absurd ⟨rfl, rfl⟩ (h #[] #[]).1
    · rename_i p q; exact absurd ⟨rfl, rfl⟩ (h p q).2
    · rfl

theorem equalIn_pn (d : Nat) {t e : TypeId} {a : Addr} (h : P.underlying t = some (.pointer e)) : (Op.equalIn (d + 1) t (.pointer (some a)) (.pointer none)).run P w = .ok false w := by
  simp [Op.equalIn, run_und h]
theorem equalIn_nn (d : Nat) {t e : TypeId} (h : P.underlying t = some (.pointer e)) : (Op.equalIn (d + 1) t (.pointer none) (.pointer none)).run P w = .ok true w := by
  simp [Op.equalIn, run_und h]
theorem equalIn_sn (d : Nat) {t e : TypeId} {n c : Nat} {a : Addr} (h : P.underlying t = some (.slice e)) : (Op.equalIn (d + 1) t (.slice (some a) n c) (.slice none 0 0)).run P w = .ok false w := by
  simp [Op.equalIn, run_und h]
theorem equalIn_ss (d : Nat) {t e : TypeId} (h : P.underlying t = some (.slice e)) : (Op.equalIn (d + 1) t (.slice none 0 0) (.slice none 0 0)).run P w = .ok true w := by
  simp [Op.equalIn, run_und h]

theorem eql_of {t : TypeId} {u v : Value} {b : Bool} (he : (Op.equalIn (9999 + 1) t u v).run P w = .ok b w)
    (hb : binOp .eql t u v = (do pure (.bool (← Op.equal t u v)))) : (binOp .eql t u v).run P w = .ok (.bool b) w := by
  have : (Op.equal t u v).run P w = .ok b w := he
  rw [hb]
  simp only [Sem.run_bind, this, Result.andThen_ok, Sem.run_pure]
theorem neq_of {t : TypeId} {u v : Value} {b : Bool} (he : (Op.equalIn (9999 + 1) t u v).run P w = .ok b w)
    (hb : binOp .neq t u v = (do pure (.bool (!(← Op.equal t u v))))) : (binOp .neq t u v).run P w = .ok (.bool !b) w := by
  have : (Op.equal t u v).run P w = .ok b w := he
  rw [hb]
  simp only [Sem.run_bind, this, Result.andThen_ok, Sem.run_pure]

theorem arith_run {op : BinOp} {k : IntKind} {x y : Int} {z : Atom} (h : arith op k x y = some z) {t : TypeId} :
    ∃ u, (binOp op t (.int k x) (.int k y)).run P w = .ok u w ∧ R RT E z u := by
  cases op <;> simp only [arith, Option.some.injEq, reduceCtorEq] at h <;> subst h <;>
    simp [binOp, Op.intArith, Op.intBits, Op.intCmp] <;> first | exact .int _ _ | exact .bool _

theorem un_sound {op : UnOp} {x : AV} {u : Value} {k : AV → Option Y} (hx : RV RT E x u) (hk : evUn op x k = some y) :
    ∃ r z, k r = some y ∧ (Op.unary op u).run P w = .ok z w ∧ RV RT E r z := by
  unfold evUn at hk
  split at hk
  · cases hx; exact ⟨_, _, hk, by simp [Op.unary, Op.intArith], R.int _ _⟩
  · cases hx; exact ⟨_, _, hk, by simp [Op.unary, Op.intBits], R.int _ _⟩
  · cases hx; exact ⟨_, _, hk, by simp [Op.unary], R.bool _⟩
  · simp at hk

theorem conv_sound {s d : TypeId} {x : AV} {u : Value} {k : AV → Option Y} (hs : Sim RT E H fp w) (hx : RV RT E x u) (hk : evConv P s d x k = some y) :
    ∃ r z, k r = some y ∧ (convert s d u).run P w = .ok z w ∧ RV RT E r z := by
  unfold evConv at hk
  split at hk
  · rename_i ds kd _ n h1 h2
    cases hx
    exact ⟨_, _, hk, by simp [convert, run_und h1, run_und h2, Conv.intToInt], R.int _ _⟩
  · rename_i e xs h1 h2
    split at hk
    · rename_i he
      cases hx with
      | roi hc hx =>
        rename_i cap base
        refine ⟨_, .string (strOfNums xs), hk, ?_, R.str _⟩
        rcases Nat.eq_zero_or_pos xs.length with h0 | h0
        · obtain rfl := List.eq_nil_of_length_eq_zero h0
          rw [run_convert_bytes_string w s d e _ _ _ h1 he h2]
          cases base with
          | none => simp [Conv.bytesToString, strOfNums, ByteArray.empty, ByteArray.emptyWithCapacity]; rfl
          | some ad =>
            rw [show ([] : List Int).length = 0 from rfl, run_bytesToString w ad 0 cap [] (by unfold loadCells; rfl)]
            simp [strOfNums, ByteArray.empty, ByteArray.emptyWithCapacity]; rfl
        · obtain ⟨ad, rfl, hsp, _⟩ := hx 0 h0
          obtain ⟨b, off, sp⟩ := ad
          simp only at hsp
          subst hsp
          refine run_convert_bytes_arg w s e h1 he b off xs.length cap xs rfl (fun i hi => ?_) d h2
          obtain ⟨ad, had, _, hM⟩ := hx i hi
          simp only [Option.some.injEq] at had
          subst had
          exact (hs.ro _ _ hM).2.1
    · simp at hk
  · simp at hk

/-! ### Places -/
theorem part_sound {t : TypeId} {cs : List Atom} {vs : Array Value} {off : Nat} {k : AV → Option Y} (hc : RCs RT E cs vs) (hk : partA P t cs off k = some y) :
    ∃ v u, k v = some y ∧ (part t vs off).run P w = .ok u w ∧ RV RT E v u := by
  unfold partA at hk
  split at hk
  · rename_i hg
    rw [gate_some] at hk
    obtain ⟨hle, hk⟩ := hk
    have hle' := Nat.le_of_ble_eq_true hle
    rw [lenA_eq] at hle'
    rw [takeA_eq, dropA_eq] at hk
    refine ⟨_, .agg (vs.extract off (off + sizeT P t)), hk, by simp [part, run_isAgg hg, run_size (agg_has hg)], _, rfl, ?_, fun j x hj => ?_⟩
    · have := hc.1; simp; omega
    · have hj' : j < sizeT P t := by
        rcases Nat.lt_or_ge j (sizeT P t) with h' | h'
        · exact h'
        · rw [List.getElem?_eq_none (by simp; omega)] at hj
          simp at hj
      rw [List.getElem?_take_of_lt hj', List.getElem?_drop] at hj
      have := hc.2 _ _ hj
      have he : (vs.extract off (off + sizeT P t)).getD j undef = vs.getD (off + j) undef := by
        have := hc.1
        simp only [Array.getD_eq_getD_getElem?]
        congr 1
        rw [Array.getElem?_extract]
        split
        · rfl
        · omega
      rw [he]
      exact this
  · rename_i hg
    split at hk
    · rename_i x hx
      rw [nth_eq] at hx
      have hr := hc.2 _ _ hx
      have hlt : off < vs.size := by
        have := hc.1
        rcases Nat.lt_or_ge off cs.length with h' | h'
        · omega
        · rw [List.getElem?_eq_none h'] at hx; simp at hx
      have he : vs[off]? = some (vs.getD off undef) := by simp [Array.getD, hlt]
      refine ⟨_, vs.getD off undef, hk, ?_, hr⟩
      simp only [part, Sem.run_bind, run_isAgg hg, Result.andThen_ok, Bool.false_eq_true, if_false]
      rw [he]
      rfl
    · simp at hk
  · simp at hk

theorem name_under {n : String} (h : eqNs (nameNums n) [95] = false) : n ≠ "_" := by
  rintro rfl
  revert h
  decide +kernel

theorem eqFs_sound {xs ys : Array Value} {as bs : List Atom} (hx : RCs RT E as xs) (hy : RCs RT E bs ys) {d : Nat} : ∀ {fs : List Field} {b : Bool}, eqFs P fs as bs = some b → (Op.eqFields (d + 1) xs ys fs).run P w = .ok b w
  | [], b, h => by
    simp only [eqFs, Option.some.injEq] at h
    subst h
    rfl
  | f :: fs, b, h => by
    simp only [eqFs] at h
    split at h
    · simp at h
    · rename_i hn
      have hne := name_under hn
      split at h
      · rename_i k0 k a k' c hu h1 h2
        obtain ⟨v1, u1, g1, g2, g3⟩ := part_sound (P := P) (w := w) hx h1
        obtain ⟨v2, u2, q1, q2, q3⟩ := part_sound (P := P) (w := w) hy h2
        simp only [Option.some.injEq] at g1 q1
        subst g1
        subst q1
        obtain rfl := R.int_inv g3
        obtain rfl := R.int_inv q3
        split at h
        · rename_i r hk hr
          rw [eqK_iff] at hk
          subst hk
          simp only [Option.some.injEq] at h
          subst h
          have ih := eqFs_sound hx hy (d := d) hr
          simp only [Op.eqFields, ne_eq, hne, not_false_eq_true, if_true, Sem.run_bind, g2, q2, Result.andThen_ok, run_equalIn_int w d f.type _ _ a c hu]
          cases hac : (a == c)
          · simp [Sem.run_pure]
          · simpa using ih
        · simp at h
      · rename_i a c hu h1 h2
        obtain ⟨v1, u1, g1, g2, g3⟩ := part_sound (P := P) (w := w) hx h1
        obtain ⟨v2, u2, q1, q2, q3⟩ := part_sound (P := P) (w := w) hy h2
        simp only [Option.some.injEq] at g1 q1
        subst g1
        subst q1
        obtain rfl := R.bool_inv g3
        obtain rfl := R.bool_inv q3
        split at h
        · rename_i r hr
          simp only [Option.some.injEq] at h
          subst h
          have ih := eqFs_sound hx hy (d := d) hr
          simp only [Op.eqFields, ne_eq, hne, not_false_eq_true, if_true, Sem.run_bind, g2, q2, Result.andThen_ok, run_equalIn_bool' w d f.type a c hu]
          cases hac : (a == c)
          · simp [Sem.run_pure]
          · simpa using ih
        · simp at h
      · simp at h

theorem bin_sound {op : BinOp} {t : TypeId} {x y' : AV} {u v : Value} {k : AV → Option Y} {ox oy : Operand} (hx : RV RT E x u) (hy : RV RT E y' v)
    (hk : evBin P op t x y' k = some y) : ∃ r z, k r = some y ∧ (do eqGuard op t ox oy u v; binOp op t u v : Sem Value).run P w = .ok z w ∧ RV RT E r z := by
  unfold evBin at hk
  split at hk
  · -- integers
    rename_i kx a ky b
    cases hx
    cases hy
    have hg : (eqGuard op t ox oy (.int kx a) (.int ky b)).run P w = .ok () w := eqGuard_run (by simp)
    simp only [Sem.run_bind, hg, Result.andThen_ok]
    split at hk
    · rw [chk_some] at hk
      obtain ⟨h0, hk⟩ := hk
      refine ⟨_, _, hk, ?_, R.int _ _⟩
      simp [binOp, Op.shift, Int.not_lt.mpr h0]
    · rw [chk_some] at hk
      obtain ⟨h0, hk⟩ := hk
      refine ⟨_, _, hk, ?_, R.int _ _⟩
      simp [binOp, Op.shift, Int.not_lt.mpr h0]
    · rw [gate_some, eqK_iff, chk_some] at hk
      obtain ⟨rfl, h0, hk⟩ := hk
      refine ⟨_, _, hk, ?_, R.int _ _⟩
      simp [binOp, Op.intDiv, h0]
    · rw [gate_some, eqK_iff, chk_some] at hk
      obtain ⟨rfl, h0, hk⟩ := hk
      refine ⟨_, _, hk, ?_, R.int _ _⟩
      simp [binOp, Op.intDiv, h0]
    · rw [gate_some, eqK_iff] at hk
      obtain ⟨rfl, hk⟩ := hk
      split at hk
      · rename_i z hz
        obtain ⟨u, hu, hr⟩ := arith_run (P := P) (w := w) (RT := RT) (E := E) (t := t) hz
        exact ⟨_, u, hk, hu, hr⟩
      · simp at hk
  · cases hx
    cases hy
    rename_i a b
    have hg : (eqGuard op t ox oy (.bool a) (.bool b)).run P w = .ok () w := eqGuard_run (by simp)
    simp only [Sem.run_bind, hg, Result.andThen_ok]
    split at hk
    · rename_i hu; exact ⟨_, _, hk, run_eql_bool w t a b hu, R.bool _⟩
    · rename_i hu; exact ⟨_, _, hk, run_neq_bool w t a b hu, R.bool _⟩
    · simp at hk
  · cases hx
    cases hy
    rename_i a b
    have hg : (eqGuard op t ox oy (.string a) (.string b)).run P w = .ok () w := eqGuard_run (by simp)
    simp only [Sem.run_bind, hg, Result.andThen_ok]
    split at hk
    · rename_i hu; exact ⟨_, _, hk, by simp [binOp, Op.stringOp], R.bool _⟩
    · rename_i hu; exact ⟨_, _, hk, by simp [binOp, Op.stringOp], R.bool _⟩
    · simp at hk
  · cases hx
    cases hy
    rename_i id off I h
    have hg : (eqGuard op t ox oy (.pointer (some ⟨I.cb, I.coff + off, none⟩)) (.pointer none)).run P w = .ok () w := eqGuard_run (by simp)
    simp only [Sem.run_bind, hg, Result.andThen_ok]
    split at hk
    · rename_i hu; refine ⟨_, _, hk, ?_, R.bool _⟩; exact eql_of (equalIn_pn 9999 hu) rfl
    · rename_i hu; refine ⟨_, _, hk, ?_, R.bool _⟩; exact neq_of (equalIn_pn 9999 hu) rfl
    · simp at hk
  · cases hx
    cases hy
    have hg : (eqGuard op t ox oy (.pointer none) (.pointer none)).run P w = .ok () w := eqGuard_run (by simp)
    simp only [Sem.run_bind, hg, Result.andThen_ok]
    split at hk
    · rename_i hu; refine ⟨_, _, hk, ?_, R.bool _⟩; exact eql_of (equalIn_nn 9999 hu) rfl
    · rename_i hu; refine ⟨_, _, hk, ?_, R.bool _⟩; exact neq_of (equalIn_nn 9999 hu) rfl
    · simp at hk
  · cases hx
    cases hy
    have hg : (eqGuard op t ox oy (.slice none 0 0) (.slice none 0 0)).run P w = .ok () w := eqGuard_run (by simp)
    simp only [Sem.run_bind, hg, Result.andThen_ok]
    split at hk
    · rename_i hu; refine ⟨_, _, hk, ?_, R.bool _⟩; exact eql_of (equalIn_ss 9999 hu) rfl
    · rename_i hu; refine ⟨_, _, hk, ?_, R.bool _⟩; exact neq_of (equalIn_ss 9999 hu) rfl
    · simp at hk
  · cases hx with
    | full h hb hn hc hg =>
      cases hy
      rename_i id cap I base
      cases base with
      | none => simp at hn
      | some ad =>
        have hg : (eqGuard op t ox oy (.slice (some ad) I.n cap) (.slice none 0 0)).run P w = .ok () w := eqGuard_run (by simp)
        simp only [Sem.run_bind, hg, Result.andThen_ok]
        split at hk
        · rename_i hu; refine ⟨_, _, hk, ?_, R.bool _⟩; exact eql_of (equalIn_sn 9999 hu) rfl
        · rename_i hu; refine ⟨_, _, hk, ?_, R.bool _⟩; exact neq_of (equalIn_sn 9999 hu) rfl
        · simp at hk
  · rename_i as bs
    obtain ⟨xs, hxu, hxc⟩ := hx
    obtain ⟨ys, hyu, hyc⟩ := hy
    subst hxu
    subst hyu
    split at hk
    · rename_i fs hu hg0
      rw [Bool.or_eq_false_iff] at hg0
      split at hk
      · rename_i b hb
        have hfo : P.fieldsOf t = fs := by unfold Program.fieldsOf; rw [hu]
        have he : (Op.equalIn (9999 + 1) t (.agg xs) (.agg ys)).run P w = .ok b w := by
          rw [run_equalIn_struct w 9999 t xs ys (by rw [hu, hfo]) hg0.1, hfo]
          exact eqFs_sound hxc hyc hb
        have hg : (eqGuard op t ox oy (.agg xs) (.agg ys)).run P w = .ok () w := run_eqGuard_agg w op t ox oy xs ys hg0.2
        simp only [Sem.run_bind, hg, Result.andThen_ok]
        split at hk
        · exact ⟨_, _, hk, by rw [run_eql_struct, he]; rfl, R.bool _⟩
        · exact ⟨_, _, hk, by rw [run_neq_struct, he]; rfl, R.bool _⟩
        · simp at hk
      · simp at hk
    · simp at hk
  · simp at hk

theorem field_sound {t : TypeId} {x : AV} {f : Nat} {u : Value} {k : AV → Option Y} (hx : RV RT E x u) (hk : evField P t x f k = some y) :
    ∃ v z, k v = some y ∧ (Instr.field t u f).run P w = .ok z w ∧ RV RT E v z := by
  unfold evField at hk
  split at hk
  · rename_i fs cs hu
    split at hk
    · rename_i fd hf
      obtain ⟨vs, rfl, hc⟩ := hx
      obtain ⟨v, z, h1, h2, h3⟩ := part_sound (P := P) (w := w) hc hk
      exact ⟨v, z, h1, by simp [Instr.field, run_und hu, hf, asAgg, h2], h3⟩
    · simp at hk
  · simp at hk

theorem dropA_get {cs : List Atom} {o j : Nat} {x : Atom} (h : (dropA o cs)[j]? = some x) : cs[o + j]? = some x := by
  rw [dropA_eq, List.getElem?_drop] at h
  exact h

theorem fieldAddr_sound {t : TypeId} {x : AV} {f : Nat} {u : Value} {k : AV → Option Y} (hx : RV RT E x u)
    (hk : evFieldAddr P t x f k = some y) : ∃ v z, k v = some y ∧ (Instr.fieldAt t u f).run P w = .ok z w ∧ RV RT E v z := by
  unfold evFieldAddr at hk
  split at hk
  · rename_i fs xa hu
    split at hk
    · rename_i fd hf
      rw [gate_some] at hk
      obtain ⟨hz, hk⟩ := hk
      have hz' : sizeT P fd.type ≠ 0 := by
        intro h
        rw [h] at hz
        simp at hz
      have hh : hasT P fd.type = true := by
        unfold hasT
        cases hi : P.info? fd.type with
        | none => simp [sizeT, Program.cellsOf, hi] at hz'
        | some i => rfl
      split at hk
      · cases hx with
        | ptr h =>
          rename_i id off I
          refine ⟨_, .pointer (some ⟨I.cb, I.coff + off + fd.offset, none⟩), hk, by simp [Instr.fieldAt, run_und hu, hf, Instr.sureAddr, fieldPlace, run_size hh, hz', add_lit], ?_⟩
          have := R.ptr (RT := RT) (E := E) (off := off + fd.offset) h
          rw [← Nat.add_assoc] at this
          exact this
      · simp at hk
      · cases hx with
        | rop uu hsp hx hr =>
          rename_i ad
          obtain ⟨b, o, sp⟩ := ad
          simp only at hsp
          subst hsp
          refine ⟨_, .pointer (some ⟨b, o + fd.offset, none⟩), hk, by simp [Instr.fieldAt, run_und hu, hf, Instr.sureAddr, fieldPlace, run_size hh, hz', add_lit], ?_⟩
          refine R.rop (fun j => uu (fd.offset + j)) rfl (fun j x hj => ?_) fun j x hj => hr _ _ (dropA_get hj)
          have := hx _ _ (dropA_get hj)
          simp only at this ⊢
          rw [← Nat.add_assoc] at this
          exact this
      · simp at hk
    · simp at hk
  · simp at hk

theorem lenA_sound {x : Atom} {u : Value} {n : Nat} (hs : Sim RT E H fp w) (hx : R RT E x u) (hl : lenOfA RT H x = some n) :
    ∃ base cap, u = .slice base n cap ∧ n ≤ cap := by
  cases hx with
  | nils => simp [lenOfA] at hl; subst hl; exact ⟨_, _, rfl, Nat.le_refl _⟩
  | full h hb hn hcc hgg =>
    rename_i id cap nn I base
    simp only [lenOfA] at hl
    split at hl
    · rename_i g k xs hb'
      obtain ⟨I', hI', ok⟩ := hs.blk _ _ hb'
      rw [h] at hI'; obtain rfl := Option.some.inj hI'
      have := ok.kind.2.1
      have := ok.cap
      simp at hl
      exact ⟨base, cap, by rw [show n = I.n by omega], by omega⟩
    · rename_i g T xs hb'
      obtain ⟨I', hI', ok⟩ := hs.blk _ _ hb'
      rw [h] at hI'; obtain rfl := Option.some.inj hI'
      have := ok.kind.2.1
      have := ok.cap
      simp at hl
      exact ⟨base, cap, by rw [show n = I.n by omega], by omega⟩
    · rename_i kd xs hi' b hb'
      obtain ⟨I', hI', ok⟩ := hs.blk _ _ hb'
      rw [h] at hI'; obtain rfl := Option.some.inj hI'
      have := ok.kind.2.1
      have := ok.cap
      simp at hl
      exact ⟨base, cap, by rw [show n = I.n by omega], by omega⟩
    · rename_i wd cs hb'
      obtain ⟨I', hI', ok⟩ := hs.blk _ _ hb'
      rw [h] at hI'; obtain rfl := Option.some.inj hI'
      obtain ⟨h1, h2, _⟩ := ok.kind
      have hc := ok.cap
      rw [lenA_eq] at hl
      split at hl
      · rename_i hpos
        have : n = I.n := by
          rw [← h2] at hl
          rw [← Option.some.inj hl]
          exact Nat.mul_div_cancel _ (by simpa [Nat.blt, Nat.succ_le_iff] using hpos)
        subst this
        exact ⟨base, cap, rfl, hcc⟩
      · simp at hl
    · simp at hl
  | sub h hww hl' hc hb =>
    simp only [lenOfA] at hl
    split at hl
    · simp at hl; subst hl; exact ⟨_, _, rfl, hc⟩
    · simp at hl
  | roi hc hx => simp [lenOfA] at hl; subst hl; exact ⟨_, _, rfl, hc⟩
  | ror u hT hc hx hr => simp [lenOfA, hT] at hl; subst hl; exact ⟨_, _, rfl, hc⟩
  | _ => simp [lenOfA] at hl

theorem addr_eta {a : Addr} (h : a.spot = none) : a = ⟨a.block, a.off, none⟩ := by
  obtain ⟨b, o, s⟩ := a
  simp only at h
  subst h
  rfl

/-- Where an element lies. -/
theorem elem_sound {x p : Atom} {wd n i : Nat} {base : Option Addr} {len cap : Nat} (hs : Sim RT E H fp w) (hx : R RT E x (.slice base len cap))
    (hl : lenOfA RT H x = some n) (hi : i < n) (he : elemA RT H x i = some (p, wd)) :
    ∃ a, base = some a ∧ R RT E p (.pointer (some (a.add (i * wd)))) := by
  cases hx with
  | nils => simp [elemA] at he
  | full h hb hn hcc hgg =>
    rename_i id nn I
    have hI : n = I.n := by
      obtain ⟨_, _, he', _⟩ := lenA_sound hs (R.full (nn := nn) h hb hn hcc hgg) hl
      simp at he'
      exact he'.2.1.symm
    have hb' : base = some ⟨I.cb, I.coff, none⟩ := by
      rcases hb with hb | ⟨h0, _⟩
      · exact hb
      · omega
    refine ⟨_, hb', ?_⟩
    rw [add_lit]
    simp only [elemA] at he
    split at he
    · rename_i wd' cs hb''
      simp only [Option.some.injEq, Prod.mk.injEq] at he
      obtain ⟨rfl, rfl⟩ := he
      exact R.ptr h
    · rename_i g k xs hb''
      simp only [Option.some.injEq, Prod.mk.injEq] at he
      obtain ⟨rfl, rfl⟩ := he
      obtain ⟨I', hI', ok⟩ := hs.blk _ _ hb''
      rw [h] at hI'; obtain rfl := Option.some.inj hI'
      have hw := ok.kind.1
      have := R.eptr (RT := RT) (E := E) (i := i) (j := 0) h (by omega) (by omega)
      rw [hw] at this
      exact this
    · rename_i g T xs hb''
      split at he
      · rename_i hpos
        simp only [Option.some.injEq, Prod.mk.injEq] at he
        obtain ⟨rfl, rfl⟩ := he
        obtain ⟨I', hI', ok⟩ := hs.blk _ _ hb''
        rw [h] at hI'; obtain rfl := Option.some.inj hI'
        have hw := ok.kind.1
        have hp : 0 < recW T := by simpa [Nat.blt, Nat.succ_le_iff] using hpos
        have := R.eptr (RT := RT) (E := E) (i := i) (j := 0) h (by omega) (by omega)
        rw [hw] at this
        exact this
      · simp at he
    · rename_i kd xs hi' b hb''
      simp only [Option.some.injEq, Prod.mk.injEq] at he
      obtain ⟨rfl, rfl⟩ := he
      obtain ⟨I', hI', ok⟩ := hs.blk _ _ hb''
      rw [h] at hI'; obtain rfl := Option.some.inj hI'
      have hw := ok.kind.1
      have := R.eptr (RT := RT) (E := E) (i := i) (j := 0) h (by omega) (by omega)
      rw [hw] at this
      exact this
    · simp at he
  | sub h hww hl' hc hb =>
    rename_i id lo I
    simp only [elemA] at he
    split at he
    · rename_i g k xs hb''
      simp only [lenOfA, hb'', Option.some.injEq] at hl
      subst hl
      simp only [Option.some.injEq, Prod.mk.injEq] at he
      obtain ⟨rfl, rfl⟩ := he
      obtain ⟨I', hI', ok⟩ := hs.blk _ _ hb''
      rw [h] at hI'; obtain rfl := Option.some.inj hI'
      have hw := ok.kind.1
      have hb' : base = some ⟨I.cb, I.coff + lo * I.w, none⟩ := by
        rcases hb with hb | h0
        · exact hb
        · omega
      refine ⟨_, hb', ?_⟩
      rw [add_lit]
      have := R.eptr (RT := RT) (E := E) (i := lo + i) (j := 0) h (by omega) (by omega)
      rw [hw] at this ⊢
      rw [show I.coff + lo * 1 + i * 1 = I.coff + ((lo + i) * 1 + 0) by omega]
      exact this
    · simp at he
  | roi hc hx =>
    rename_i k xs
    simp only [lenOfA, Option.some.injEq] at hl
    subst hl
    simp only [elemA, Option.some.injEq, Prod.mk.injEq] at he
    obtain ⟨rfl, rfl⟩ := he
    obtain ⟨a, hb, hsp, hm⟩ := hx i hi
    refine ⟨a, hb, ?_⟩
    rw [addr_eta hsp, add_lit]
    refine R.rop (fun _ => .int k (xs.getD i 0)) rfl (fun j x hj => ?_) (fun j x hj => ?_)
    · cases j with
      | succ j => simp at hj
      | zero => simp only [Nat.mul_one, Nat.add_zero]; exact hm
    · cases j with
      | succ j => simp at hj
      | zero => simp at hj; subst hj; exact .int _ _
  | ror uu hT hc hx hr =>
    rename_i tag T
    simp only [lenOfA, hT, Option.some.injEq] at hl
    subst hl
    have hw0 : 0 < T.w := by
      cases hb : Nat.blt 0 T.w with
      | false => simp [elemA, hT, hb] at he
      | true => simpa [Nat.blt, Nat.succ_le_iff] using hb
    have hw1 : Nat.blt 0 T.w = true := by simpa [Nat.blt, Nat.succ_le_iff] using hw0
    simp only [elemA, hT, hw1, Option.some.injEq, Prod.mk.injEq] at he
    obtain ⟨rfl, rfl⟩ := he
    have hrow : ∀ (f : Nat → Nat → Atom) (i m j0 j : Nat) (x : Atom), (rowOf f i m j0)[j]? = some x → j < m ∧ x = f i (j0 + j) := by
      intro f i m
      induction m with
      | zero => intro j0 j x h; simp [rowOf] at h
      | succ m ih =>
        intro j0 j x h
        cases j with
        | zero => simp [rowOf] at h; exact ⟨by omega, by rw [← h]; rfl⟩
        | succ j => simp only [rowOf, List.getElem?_cons_succ] at h; obtain ⟨h1, h2⟩ := ih _ _ _ h; exact ⟨by omega, by rw [h2]; congr 1; omega⟩
    · obtain ⟨a, hb, hsp, _⟩ := hx i 0 hi hw0
      refine ⟨a, hb, ?_⟩
      rw [addr_eta hsp, add_lit]
      refine R.rop (fun j => uu i j) rfl (fun j x hj => ?_) (fun j x hj => ?_)
      · obtain ⟨hj', rfl⟩ := hrow _ _ _ _ _ _ hj
        obtain ⟨a', hb', hsp', hm⟩ := hx i j hi hj'
        rw [hb] at hb'; obtain rfl := Option.some.inj hb'
        simp only [Nat.add_assoc]
        exact hm
      · obtain ⟨hj', rfl⟩ := hrow _ _ _ _ _ _ hj
        simpa using hr i j hi hj'
  | _ => simp [elemA] at he

theorem indexAddr_sound {t : TypeId} {x ix : AV} {u v : Value} {k : AV → Option Y} (hs : Sim RT E H fp w) (hx : RV RT E x u) (hi : RV RT E ix v)
    (hk : evIndexAddr P RT H t x ix k = some y) : ∃ r z, k r = some y ∧ (Instr.indexAt t u v).run P w = .ok z w ∧ RV RT E r z := by
  unfold evIndexAddr at hk
  split at hk
  · rename_i e xa ki i hu
    split at hk
    · rename_i n hl
      split at hk
      · rename_i p wd he
        rw [gate_some, chk_some] at hk
        obtain ⟨hg, ⟨h0, h1⟩, hk⟩ := hk
        simp only [Bool.and_eq_true] at hg
        obtain ⟨hw, hh⟩ := hg
        obtain rfl := Nat.eq_of_beq_eq_true hw
        cases hi
        obtain ⟨base, cap, rfl, hc⟩ := lenA_sound hs hx hl
        obtain ⟨a, rfl, hr⟩ := elem_sound hs hx hl (by omega) he
        refine ⟨_, _, hk, ?_, hr⟩
        simp [Instr.indexAt, asIntOf, run_und hu, h0, h1, run_size hh]
      · simp at hk
    · simp at hk
  · rename_i n e id off ki i hu
    rw [gate_some] at hk
    obtain ⟨hg, hk⟩ := hk
    simp only [Bool.and_eq_true] at hg
    obtain ⟨hlt, hh⟩ := hg
    have hlt' : i < n := by simpa [Nat.blt, Nat.succ_le_iff] using hlt
    cases hi
    cases hx with
    | ptr h =>
      rename_i I
      refine ⟨_, .pointer (some ⟨I.cb, I.coff + off + i * sizeT P e, none⟩), hk, ?_, ?_⟩
      · simp [Instr.indexAt, asIntOf, run_und hu, Instr.sureAddr, run_size hh, add_lit]
        omega
      · have := R.ptr (RT := RT) (E := E) (off := off + i * sizeT P e) h
        rw [← Nat.add_assoc] at this
        exact this
  · simp at hk

theorem intsOf_spec {kd : IntKind} : ∀ {cs : List Atom} {l : List Int}, intsOf kd cs = some l → cs = l.map (Atom.int kd)
  | [], l, h => by simp [intsOf] at h; subst h; rfl
  | c :: cs, l, h => by
    cases c <;> simp only [intsOf, reduceCtorEq] at h
    rename_i k' n
    split at h
    · rename_i hk
      rw [eqK_iff] at hk
      split at h
      · rename_i l' hl
        simp only [Option.some.injEq] at h
        subst h hk
        rw [intsOf_spec hl]
        rfl
      · simp at h
    · simp at h

theorem index_sound {t : TypeId} {x ix : AV} {u v : Value} {k : AV → Option Y} (hx : RV RT E x u) (hi : RV RT E ix v)
    (hk : evIndex P t x ix k = some y) : ∃ r z, k r = some y ∧ (Instr.index t u v).run P w = .ok z w ∧ RV RT E r z := by
  unfold evIndex at hk
  split at hk
  · rename_i n e cs ki i hu
    split at hk
    · rename_i kd he
      split at hk
      · rename_i l hl
        rw [gate_some, chk_some] at hk
        obtain ⟨hg, ⟨h0, h1⟩, hk⟩ := hk
        simp only [Bool.and_eq_true] at hg
        obtain ⟨hln, hsz⟩ := hg
        have hln := Nat.eq_of_beq_eq_true hln
        have hsz := Nat.eq_of_beq_eq_true hsz
        cases hi
        obtain ⟨vs, rfl, hc⟩ := hx
        obtain rfl := intsOf_spec hl
        have hj : (l.map (Atom.int kd))[i.toNat]? = some (.int kd (l.getD i.toNat 0)) := by
          have : i.toNat < l.length := by omega
          simp [this]
        have hr := hc.2 _ _ hj
        have hlt : i.toNat < vs.size := by have := hc.1; simp at this; omega
        have hv : vs[i.toNat]? = some (.int kd (l.getD i.toNat 0)) := by
          have : vs[i.toNat]? = some (vs.getD i.toNat undef) := by simp [Array.getD, hlt]
          rw [this, R.int_inv hr]
        have hag : aggT P e = some false := by simp [aggT, he]
        refine ⟨_, _, hk, ?_, R.int _ _⟩
        simp [Instr.index, asIntOf, run_und hu, h0, h1, run_size (has_of_und he), hsz, part, run_isAgg hag, hv]
      · simp at hk
    · simp at hk
  · rename_i sb ki i hu
    rw [chk_some] at hk
    obtain ⟨⟨h0, h1⟩, hk⟩ := hk
    unfold strLen at h1
    cases hi
    cases hx
    refine ⟨_, _, hk, ?_, R.int _ _⟩
    have hlt : i.toNat < sb.size := by omega
    have hsb : sb[i.toNat]? = some (sb[i.toNat]'hlt) := by simp [hlt]
    simp only [Instr.index, asIntOf, Sem.run_bind, Sem.run_pure, Result.andThen_ok, run_und hu, h0, if_true, hsb]
    congr 2
    have : sb.data.toList[i.toNat]? = some (sb[i.toNat]'hlt) := by
      rw [Array.getElem?_toList]
      have hd : i.toNat < sb.data.size := hlt
      rw [Array.getElem?_eq_getElem hd]
      rfl
    simp [strInts, List.getD_eq_getElem?_getD, this]
  · simp at hk

theorem extract_sound {x : AV} {i : Nat} {u : Value} {k : AV → Option Y} (hx : RV RT E x u) (hk : evExtract x i k = some y) :
    ∃ r z, k r = some y ∧ (Instr.extract u i).run P w = .ok z w ∧ RV RT E r z := by
  unfold evExtract at hk
  split at hk
  · rename_i ps
    obtain ⟨vs, rfl, hn, hc⟩ := hx
    have hget : ∀ p, nth ps i = some p → vs[i]? = some (vs.getD i undef) ∧ RP RT E p (vs.getD i undef) := by
      intro p hp
      rw [nth_eq] at hp
      refine ⟨?_, hc _ _ hp⟩
      have : i < vs.size := by
        rcases Nat.lt_or_ge i ps.length with h' | h'
        · omega
        · rw [List.getElem?_eq_none h'] at hp; simp at hp
      simp [Array.getD, this]
    split at hk
    · rename_i cs hp
      obtain ⟨h1, h2⟩ := hget _ hp
      exact ⟨_, _, hk, by simp only [Instr.extract, h1]; rfl, h2⟩
    · rename_i a hp
      obtain ⟨h1, h2⟩ := hget _ hp
      exact ⟨_, _, hk, by simp only [Instr.extract, h1]; rfl, h2⟩
    · simp at hk
  · simp at hk

theorem assert_sound {t xt : TypeId} {x : AV} {ok : Bool} {u : Value} {k : AV → Option Y} (hx : RV RT E x u) (hk : evAssert P x t ok k = some y) :
    ∃ r z, k r = some y ∧ (Instr.typeAssert u xt t ok).run P w = .ok z w ∧ RV RT E r z := by
  unfold evAssert at hk
  split at hk
  · simp at hk
  · rename_i d t' g cs hni hu
    rw [gate_some] at hk
    obtain ⟨ht, hk⟩ := hk
    obtain rfl := Nat.eq_of_beq_eq_true ht
    have hrun : ∀ v, (Instr.typeAssert (.iface t v) xt t false).run P w = .ok v w := by
      intro v
      simp only [Instr.typeAssert, Sem.run_bind, run_und hu, Result.andThen_ok]
      cases d <;> first | exact absurd rfl (hni _) | simp
    split at hk
    · cases hx with
      | ifg hn hr => exact ⟨_, _, hk, hrun _, _, rfl, hn, hr⟩
    · cases hx with
      | ifa hr => exact ⟨_, _, hk, hrun _, hr⟩
    · simp at hk
  · simp at hk

theorem iface_sound {t : TypeId} {x : AV} {u : Value} {k : AV → Option Y} (hx : RV RT E x u) (hk : evIface P t x k = some y) :
    ∃ r z, k r = some y ∧ (Instr.makeInterface t u).run P w = .ok z w ∧ RV RT E r z := by
  unfold evIface at hk
  split at hk
  · simp at hk
  · rename_i d a hni hu
    refine ⟨_, .iface t u, hk, ?_, R.ifa hx⟩
    simp only [Instr.makeInterface, Sem.run_bind, run_und hu, Result.andThen_ok]
    cases d <;> first | exact absurd rfl (hni _) | rfl
  · rename_i d cs hni hu
    obtain ⟨vs, rfl, hc⟩ := hx
    refine ⟨_, .iface t (.agg vs), hk, ?_, R.ifg hc.1 hc.2⟩
    simp only [Instr.makeInterface, Sem.run_bind, run_und hu, Result.andThen_ok]
    cases d <;> first | exact absurd rfl (hni _) | rfl
  · simp at hk

theorem minmax_sound {mx : Bool} {xs : List AV} {us : List Value} {k : AV → Option Y} (hx : ∀ (j : Nat) (x : AV), xs[j]? = some x → RV RT E x (us.getD j undef)) (hn : us.length = xs.length)
    (hk : evMinMax mx xs k = some y) (ts : Array TypeId) (t : TypeId) :
    ∃ r z, k r = some y ∧ (if mx then Builtin.max_ ts t us.toArray else Builtin.min_ ts t us.toArray).run P w = .ok z w ∧ RV RT E r z := by
  unfold evMinMax at hk
  split at hk
  · rename_i kx a ky b
    match us, hn with
    | [u0, u1], _ =>
      have h0 := hx 0 _ rfl
      have h1 := hx 1 _ rfl
      simp at h0 h1
      cases h0
      cases h1
      split at hk
      · exact ⟨_, _, hk, by simp [run_max_int2 w], R.int _ _⟩
      · exact ⟨_, _, hk, by simp [run_min_int2 w], R.int _ _⟩
  · simp at hk

theorem len_sound {t : TypeId} {x : AV} {u : Value} {k : AV → Option Y} (hs : Sim RT E H fp w) (hx : RV RT E x u) (hk : evLen P RT H t x k = some y)
    (ts : Array TypeId) (ht : ts[0]? = some t) (t' : TypeId) :
    ∃ r z, k r = some y ∧ (Builtin.len_ ts t' #[u]).run P w = .ok z w ∧ RV RT E r z := by
  unfold evLen at hk
  split at hk
  · rename_i e a hu
    split at hk
    · rename_i n hl
      obtain ⟨base, cap, rfl, _⟩ := lenA_sound hs hx hl
      exact ⟨_, _, hk, by simp [Builtin.len_, ht, run_und hu, goInt], R.int _ _⟩
    · simp at hk
  · rename_i sb hu
    cases hx
    exact ⟨_, _, hk, by simp [strLen, Builtin.len_, ht, run_und hu, goInt], R.int _ _⟩
  · rename_i _ n e hu
    exact ⟨_, .int .i64 (n : Int), hk, by simp [Builtin.len_, ht, run_und hu, goInt], R.int _ _⟩
  · simp at hk

/-- A bound of a slice expression. -/
theorem bound_sound {x : Option AV} {u : Option Value} {d m m' : Nat} {k : Nat → Option Y} (hm : m ≤ m')
    (hx : match x, u with | none, none => True | some x, some u => RV RT E x u | _, _ => False) (hk : boundA x d m k = some y) :
    ∃ n, k n = some y ∧ (match u with | none => n = d | some u => n ≤ m ∧ ∀ c, (Instr.sliceBound u m' c).run P w = .ok n w) := by
  unfold boundA at hk
  split at hk
  · cases u with
    | none => exact ⟨d, hk, rfl⟩
    | some u => exact hx.elim
  · rename_i ki i
    rw [chk_some] at hk
    obtain ⟨⟨h0, h1⟩, hk⟩ := hk
    cases u with
    | none => exact hx.elim
    | some u =>
      cases hx
      refine ⟨_, hk, by omega, fun c => ?_⟩
      have : i ≤ (m' : Int) := by omega
      simp [Instr.sliceBound, asIntOf, h0, this]
  · simp at hk

theorem sub_sound {x p : Atom} {l h n : Nat} {base : Option Addr} {len cap : Nat} (hs : Sim RT E H fp w) (hx : R RT E x (.slice base len cap))
    (hl : lenOfA RT H x = some n) (ho : oneCell H x = true) (hlh : l ≤ h) (hh : h ≤ n) (he : subA x l h = some p) :
    R RT E p (.slice (if cap = l then base else base.map (·.add (l * 1))) (h - l) (cap - l)) := by
  obtain ⟨base', cap', hu, hc⟩ := lenA_sound hs hx hl
  simp only [Value.slice.injEq] at hu
  obtain ⟨rfl, rfl, rfl⟩ := hu
  cases hx with
  | full hI hb hn hcc hgg =>
    rename_i id nn I
    simp only [subA, Option.some.injEq] at he
    subst he
    simp only [oneCell] at ho
    split at ho
    · rename_i g k xs hb''
      obtain ⟨I', hI', ok⟩ := hs.blk _ _ hb''
      rw [hI] at hI'; obtain rfl := Option.some.inj hI'
      have hw := ok.kind.1
      refine R.sub hI hw (by omega) (by omega) ?_
      by_cases h0 : h - l = 0
      · exact Or.inr h0
      · left
        rw [if_neg (by omega)]
        rcases hb with hb | ⟨hz, _⟩
        · rw [hb, Option.map_some, add_lit, hw]
        · omega
    · simp at ho
  | sub hI hww hl' hc' hb =>
    rename_i id lo I
    simp only [subA, Option.some.injEq] at he
    subst he
    simp only [oneCell] at ho
    split at ho
    · rename_i g k xs hb''
      obtain ⟨I', hI', ok⟩ := hs.blk _ _ hb''
      rw [hI] at hI'; obtain rfl := Option.some.inj hI'
      have hw := ok.kind.1
      refine R.sub hI hw (by omega) (by omega) ?_
      by_cases h0 : h - l = 0
      · exact Or.inr h0
      · left
        rw [if_neg (by omega)]
        rcases hb with hb | hz
        · rw [hb, Option.map_some, add_lit, hw]
          congr 2
          rw [Nat.add_mul]
          omega
        · omega
    · simp at ho
  | roi hc' hx =>
    rename_i k xs
    simp only [subA, Option.some.injEq] at he
    subst he
    have hlen : ((xs.drop l).take (h - l)).length = h - l := by simp; omega
    have key : R RT E (.roi k ((xs.drop l).take (h - l))) (.slice (if cap = l then base else base.map (·.add (l * 1))) ((xs.drop l).take (h - l)).length (cap - l)) := by
      refine R.roi (by omega) fun i hi => ?_
      obtain ⟨a, hb, hsp, hm⟩ := hx (l + i) (by omega)
      refine ⟨a.add l, ?_, ?_, ?_⟩
      · rw [if_neg (by omega), hb]; simp
      · rw [addr_eta hsp, add_lit]
      · rw [addr_eta hsp, add_lit]
        simp only [Nat.add_assoc]
        rw [hm]
        congr 2
        have hi' : i < h - l := by omega
        simp [List.getD_eq_getElem?_getD, List.getElem?_take_of_lt hi', List.getElem?_drop]
    rw [hlen] at key
    exact key
  | _ => simp [subA] at he

theorem slice_sound {t : TypeId} {x : AV} {lo hi : Option AV} {u : Value} {ul uh : Option Value} {k : AV → Option Y} (hs : Sim RT E H fp w) (hx : RV RT E x u)
    (hl : match lo, ul with | none, none => True | some x, some u => RV RT E x u | _, _ => False)
    (hh : match hi, uh with | none, none => True | some x, some u => RV RT E x u | _, _ => False)
    (hk : evSlice P RT H t x lo hi false k = some y) : ∃ r z, k r = some y ∧ (Instr.sliceAt t u ul uh none).run P w = .ok z w ∧ RV RT E r z := by
  unfold evSlice at hk
  split at hk
  · rename_i e a hu _
    split at hk
    · rename_i n hn
      rw [gate_some] at hk
      obtain ⟨hg, hk⟩ := hk
      simp only [Bool.and_eq_true] at hg
      obtain ⟨hsz, ho⟩ := hg
      have hsz := Nat.eq_of_beq_eq_true hsz
      obtain ⟨base, cap, rfl, hc⟩ := lenA_sound hs hx hn
      obtain ⟨h, hk, hh'⟩ := bound_sound (P := P) (w := w) (m' := cap) hc hh hk
      obtain ⟨l, hk, hl'⟩ := bound_sound (P := P) (w := w) (m' := h) (Nat.le_refl _) hl hk
      split at hk
      · rename_i s he
        have hhn : h ≤ n := by
          cases uh with
          | none => simp only at hh'; omega
          | some u => exact hh'.1
        have hlh : l ≤ h := by
          cases ul with
          | none => simp only at hl'; omega
          | some u => exact hl'.1
        have hr := sub_sound hs hx hn ho hlh hhn he
        refine ⟨_, _, hk, ?_, hr⟩
        have hB : (Instr.sliceBounds true n cap ul uh none).run P w = .ok (l, h, cap) w := by
          unfold Instr.sliceBounds
          cases uh with
          | none =>
            simp only at hh'
            subst hh'
            cases ul with
            | none => simp only at hl'; subst hl'; simp
            | some u => simp [hl'.2]
          | some v =>
            cases ul with
            | none => simp only at hl'; subst hl'; simp [hh'.2]
            | some u => simp [hh'.2, hl'.2]
        simp only [Instr.sliceAt, Sem.run_bind, run_und hu, Result.andThen_ok, Instr.slice, hB]
        have hhe : hasT P e = true := by
          unfold hasT
          cases hi : P.info? e with
          | none => simp [sizeT, Program.cellsOf, hi] at hsz
          | some i => rfl
        simp only [run_size hhe, Result.andThen_ok, hsz]
        rfl
      · simp at hk
    · simp at hk
  · simp at hk

/-! ### Structs and arrays are built -/
inductive All2 {α β : Type} (r : α → β → Prop) : List α → List β → Prop where
  | nil : All2 r [] []
  | cons {a : α} {b : β} {as : List α} {bs : List β} (h : r a b) (hs : All2 r as bs) : All2 r (a :: as) (b :: bs)

theorem putCells_len : ∀ (as cs : List Atom) (off : Nat), (putCells cs off as).length = cs.length
  | [], cs, off => rfl
  | a :: as, cs, off => by rw [putCells, putCells_len as, setNth_eq]; simp

theorem putCells_get : ∀ (as cs : List Atom) (off j : Nat), off + as.length ≤ cs.length →
    (putCells cs off as)[j]? = if off ≤ j ∧ j < off + as.length then as[j - off]? else cs[j]?
  | [], cs, off, j, h => by
    rw [if_neg (by simp)]
    rfl
  | a :: as, cs, off, j, h => by
    simp only [List.length_cons] at h ⊢
    rw [putCells, putCells_get as _ _ _ (by rw [setNth_eq]; simp; omega), setNth_eq]
    by_cases h1 : off + 1 ≤ j ∧ j < off + 1 + as.length
    · rw [if_pos h1, if_pos (by omega), show j - off = (j - (off + 1)) + 1 by omega, List.getElem?_cons_succ]
    · rw [if_neg h1]
      by_cases h2 : j = off
      · subst h2
        rw [if_pos (by omega), Nat.sub_self, List.getElem?_set_self (by omega)]
        rfl
      · rw [if_neg (by omega), List.getElem?_set_ne (by omega)]

theorem RV.cells {x : AV} {u : Value} (hx : RV RT E x u) (ht : solid x = true) :
    u.cells.size = (cellsA x).length ∧ ∀ (j : Nat) (y : Atom), (cellsA x)[j]? = some y → R RT E y (u.cells.getD j undef) := by
  cases x with
  | «at» a =>
    have hu : u.cells = #[u] := by
      have hx' : R RT E a u := hx
      cases hx' <;> first | rfl | (simp [solid, knownA] at ht)
    rw [hu]
    refine ⟨by simp [cellsA], fun j y hj => ?_⟩
    cases j with
    | zero =>
      have hx' : R RT E a u := hx
      simp [cellsA] at hj
      subst hj
      simpa using hx'
    | succ j => simp [cellsA] at hj
  | agg cs =>
    obtain ⟨vs, rfl, hc⟩ := hx
    exact hc
  | tup ps => simp [solid] at ht

/-- A fold of stores, cell by cell. -/
theorem fold_get (vs : Array Value) (off : Nat) (cs : Array Value) (j : Nat) :
    (vs.zipIdx.foldl (fun cs (p : Value × Nat) => cs.setIfInBounds (off + p.2) p.1) cs).size = cs.size ∧
    (off + vs.size ≤ cs.size → (vs.zipIdx.foldl (fun cs (p : Value × Nat) => cs.setIfInBounds (off + p.2) p.1) cs).getD j undef =
      if off ≤ j ∧ j < off + vs.size then vs.getD (j - off) undef else cs.getD j undef) := by
  have key : ∀ (l : List Value) (n : Nat) (cs : Array Value),
      ((l.zipIdx n).foldl (fun cs (p : Value × Nat) => cs.setIfInBounds (off + p.2) p.1) cs).size = cs.size ∧
      (off + n + l.length ≤ cs.size → ((l.zipIdx n).foldl (fun cs (p : Value × Nat) => cs.setIfInBounds (off + p.2) p.1) cs).getD j undef =
        if off + n ≤ j ∧ j < off + n + l.length then l.getD (j - (off + n)) undef else cs.getD j undef) := by
    intro l
    induction l with
    | nil => intro n cs; refine ⟨by simp, fun _ => ?_⟩; rw [if_neg (by simp)]; rfl
    | cons v l ih =>
      intro n cs
      simp only [List.zipIdx_cons, List.foldl_cons, List.length_cons]
      obtain ⟨h1, h2⟩ := ih (n + 1) (cs.setIfInBounds (off + n) v)
      refine ⟨by rw [h1]; simp, fun h => ?_⟩
      rw [h2 (by simp; omega)]
      by_cases hj : off + (n + 1) ≤ j ∧ j < off + (n + 1) + l.length
      · rw [if_pos hj, if_pos (by omega), show j - (off + n) = (j - (off + (n + 1))) + 1 by omega, List.getD_cons_succ]
      · rw [if_neg hj]
        by_cases hj2 : j = off + n
        · subst hj2
          rw [if_pos (by omega), Nat.sub_self, getD_set_same (by omega)]
          rfl
        · rw [if_neg (by omega), getD_set_other hj2]
  have := key vs.toList 0 cs
  simp only [Nat.add_zero, Array.length_toList] at this
  rw [← Array.foldl_toList, Array.toList_zipIdx]
  refine ⟨this.1, fun h => ?_⟩
  rw [this.2 h]
  simp [Array.getD_eq_getD_getElem?, List.getD_eq_getElem?_getD]

theorem fill_sound {place : Nat → Option (Nat × Nat)} : ∀ {parts : List (Nat × AV)} {us : List (Nat × Value)} {cs cs' : List Atom} {vs : Array Value},
    All2 (fun (p : Nat × AV) (q : Nat × Value) => p.1 = q.1 ∧ RV RT E p.2 q.2) parts us → RCs RT E cs vs → fillA place cs parts = some cs' →
    ∃ vs', Instr.fill place vs us = some vs' ∧ RCs RT E cs' vs'
  | _, _, _, _, vs, .nil, hc, h => by simp [fillA] at h; subst h; exact ⟨vs, rfl, hc⟩
  | _, _, cs, cs', vs, .cons (a := ⟨i, x⟩) (b := ⟨i', u⟩) hp hps, hc, h => by
    obtain ⟨hi, hx⟩ := hp
    simp only at hi hx
    subst hi
    simp only [fillA] at h
    split at h
    · simp at h
    · rename_i off size hpl
      split at h
      · rename_i hg
        simp only [Bool.and_eq_true] at hg
        obtain ⟨hsol, hsz, hle⟩ := hg
        have hsz := Nat.eq_of_beq_eq_true hsz
        have hle := Nat.le_of_ble_eq_true hle
        rw [lenA_eq] at hsz hle
        obtain ⟨hn, hr⟩ := RV.cells hx hsol
        have hvs := hc.1
        have hc2 : RCs RT E (putCells cs off (cellsA x)) (u.cells.zipIdx.foldl (fun cs (p : Value × Nat) => cs.setIfInBounds (off + p.2) p.1) vs) := by
          refine ⟨by rw [(fold_get u.cells off vs 0).1, putCells_len]; exact hvs, fun j y hj => ?_⟩
          rw [(fold_get u.cells off vs j).2 (by omega), ]
          rw [putCells_get _ _ _ _ (by omega)] at hj
          by_cases hin : off ≤ j ∧ j < off + (cellsA x).length
          · rw [if_pos hin] at hj
            rw [if_pos (by omega)]
            exact hr _ _ hj
          · rw [if_neg hin] at hj
            rw [if_neg (by omega)]
            exact hc.2 _ _ hj
        obtain ⟨vs', h1, h2⟩ := fill_sound hps hc2 h
        refine ⟨vs', ?_, h2⟩
        simp only [Instr.fill, hpl]
        rw [if_neg (by simp; omega)]
        exact h1
      · simp at h

theorem zero_sound {t : TypeId} {z : List Atom} (h : zeroA P t = some z) :
    ∃ v, (zeroValue t).run P w = .ok v w ∧ RCs RT E z v.cells ∧ hasT P t = true := by
  unfold zeroA at h
  cases hi : P.info? t with
  | none => simp [hi] at h
  | some i =>
    have hz : hasT P t = true := by simp [hasT, hi]
    cases hv : i.zero with
    | none => simp [hi, hv] at h
    | some v =>
      have hrun : (zeroValue t).run P w = .ok v w := by simp [zeroValue, typeInfo, hi, hv]
      refine ⟨v, hrun, ?_, hz⟩
      simp only [hi, hv] at h
      split at h
      · rename_i cs heq
        simp only [Option.some.injEq] at heq h
        subst heq h
        exact RCs_atomsOf RT E cs
      · rename_i v' hne heq
        simp only [Option.some.injEq] at heq h
        subst heq h
        have : v.cells = #[v] := by cases v <;> first | rfl | exact absurd rfl (hne _)
        rw [this]
        refine ⟨rfl, fun j x hj => ?_⟩
        cases j with
        | zero => simp at hj; subst hj; simpa using atomOf_R RT E v
        | succ j => simp at hj
      · simp at h

theorem parts_sound (h : RF RT E F a) : ∀ l : List (Nat × Operand),
    All2 (fun (p : Nat × AV) (q : Nat × Value) => p.1 = q.1 ∧ RV RT E p.2 q.2) (partsA F l) (l.map fun (i, x) => (i, a.eval x))
  | [] => .nil
  | (_, x) :: r => .cons ⟨rfl, opd_sound h x⟩ (parts_sound h r)

theorem mapM_places (fs : Array Field) (hall : ∀ (i : Nat) (f : Field), fs[i]? = some f → hasT P f.type = true) :
    (fs.mapM (fun f => do pure (f.offset, ← sizeOf f.type) : Field → Sem (Nat × Nat))).run P w = .ok (fs.map fun f => (f.offset, sizeT P f.type)) w := by
  have key : ∀ (l : List Field), (∀ f ∈ l, hasT P f.type = true) →
      (l.mapM (fun f => do pure (f.offset, ← sizeOf f.type) : Field → Sem (Nat × Nat))).run P w = .ok (l.map fun f => (f.offset, sizeT P f.type)) w := by
    intro l
    induction l with
    | nil => intro _; simp
    | cons f l ih =>
      intro hl
      rw [List.mapM_cons]
      simp only [Sem.run_bind, run_size (hl f (by simp)), Result.andThen_ok, Sem.run_pure, ih (fun g hg => hl g (by simp [hg]))]
      rfl
  rw [Array.mapM_eq_mapM_toList]
  simp only [Sem.run_map, key fs.toList (fun f hf => by
    obtain ⟨i, hi⟩ := List.mem_iff_getElem?.1 hf
    exact hall i f (by simpa using hi)), Result.andThen_ok]
  congr 1
  apply Array.ext'
  simp

theorem fieldsHave_get : ∀ {l : List Field} {i : Nat} {f : Field}, fieldsHave P l = true → l[i]? = some f → hasT P f.type = true
  | [], i, f, _, h => by simp at h
  | g :: r, 0, f, h, hi => by simp [fieldsHave] at h; simp at hi; subst hi; exact h.1
  | g :: r, i + 1, f, h, hi => by simp [fieldsHave] at h; simp at hi; exact fieldsHave_get h.2 hi

theorem build_sound {t : TypeId} {parts : List (Nat × AV)} {us : Array (Nat × Value)} {k : AV → Option Y}
    (hp : All2 (fun (p : Nat × AV) (q : Nat × Value) => p.1 = q.1 ∧ RV RT E p.2 q.2) parts us.toList) (hk : evBuild P t parts k = some y) :
    ∃ r z, k r = some y ∧ (Instr.build t us).run P w = .ok z w ∧ RV RT E r z := by
  unfold evBuild at hk
  split at hk
  · rename_i z fs hz hu
    split at hk
    · rename_i cs hf
      rw [gate_some] at hk
      obtain ⟨hh, hk⟩ := hk
      obtain ⟨zv, hzr, hzc, _⟩ := zero_sound (P := P) (w := w) (RT := RT) (E := E) hz
      have hpl : (fs.mapM (fun f => do pure (f.offset, ← sizeOf f.type) : Field → Sem (Nat × Nat))).run P w = .ok (fs.map fun f => (f.offset, sizeT P f.type)) w :=
        mapM_places fs fun i f hi => fieldsHave_get hh (by simpa using hi)
      have hplace : fieldPlaces P fs = fun i => (fs.map fun f => (f.offset, sizeT P f.type))[i]? := by
        funext i
        unfold fieldPlaces
        cases h : fs[i]? <;> simp [h]
      rw [hplace] at hf
      obtain ⟨vs', h1, h2⟩ := fill_sound hp hzc hf
      refine ⟨_, .agg vs', hk, ?_, vs', rfl, h2⟩
      simp only [Instr.build, Sem.run_bind, hzr, Result.andThen_ok, run_und hu, hpl, h1, Sem.run_pure]
    · simp at hk
  · rename_i z n e hz hu
    split at hk
    · rename_i cs hf
      rw [gate_some] at hk
      obtain ⟨hh, hk⟩ := hk
      obtain ⟨zv, hzr, hzc, _⟩ := zero_sound (P := P) (w := w) (RT := RT) (E := E) hz
      obtain ⟨vs', h1, h2⟩ := fill_sound hp hzc hf
      refine ⟨_, .agg vs', hk, ?_, vs', rfl, h2⟩
      simp only [Instr.build, Sem.run_bind, hzr, Result.andThen_ok, run_und hu, run_size hh, h1, Sem.run_pure]
    · simp at hk
  · simp at hk

theorem argsA_get (h : RF RT E F a) : ∀ (l : List Operand), (argsA F l).length = l.length ∧
    ∀ (j : Nat) (x : AV), (argsA F l)[j]? = some x → RV RT E x ((l.map a.eval).getD j undef)
  | [] => ⟨rfl, fun j x hj => by simp [argsA] at hj⟩
  | o :: r => by
    obtain ⟨h1, h2⟩ := argsA_get h r
    refine ⟨by simp [argsA, h1], fun j x hj => ?_⟩
    cases j with
    | zero => simp [argsA] at hj; subst hj; simpa using opd_sound h o
    | succ j => simp [argsA] at hj; simpa using h2 j x hj

theorem atomsIn_get : ∀ {l : List AV} {as : List Atom}, atomsIn l = some as → as.length = l.length ∧ ∀ (j : Nat) (x : Atom), as[j]? = some x → l[j]? = some (.at x)
  | [], as, h => by simp [atomsIn] at h; subst h; exact ⟨rfl, fun j x hj => by simp at hj⟩
  | v :: r, as, h => by
    cases v with
    | «at» b =>
      simp only [atomsIn] at h
      split at h
      · rename_i l hl
        simp only [Option.some.injEq] at h
        subst h
        obtain ⟨h1, h2⟩ := atomsIn_get hl
        refine ⟨by simp [h1], fun j x hj => ?_⟩
        cases j with
        | zero => simp at hj; subst hj; rfl
        | succ j => simp at hj; simpa using h2 j x hj
      · simp at h
    | _ => simp [atomsIn] at h

theorem optA_sound (h : RF RT E F a) (x : Option Operand) :
    match optA F x, x.map a.eval with | none, none => True | some x, some u => RV RT E x u | _, _ => False := by
  cases x with
  | none => trivial
  | some x => exact opd_sound h x

/-- THE OPERATIONS THAT LOOK. -/
theorem evR_sound {o : Oper} {k : AV → Option Y} (hf : RF RT E F a) (hs : Sim RT E H fp w) (hk : evR P RT H F o.op k = some y) :
    ∃ v u, k v = some y ∧ (execOp a.eval o).run P w = .ok (.value u) w ∧ RV RT E v u := by
  unfold evR at hk
  unfold execOp
  have lift : ∀ (s : Sem Value) (u : Value), s.run P w = .ok u w → (do pure (.value (← s)) : Sem Next).run P w = .ok (.value u) w := by
    intro s u h
    simp only [Sem.run_bind, h, Result.andThen_ok, Sem.run_pure]
  split at hk
  · rename_i x ho; simp only [ho]; exact ⟨_, _, hk, rfl, opd_sound hf x⟩
  · rename_i x ho; simp only [ho]; exact ⟨_, _, hk, rfl, opd_sound hf x⟩
  · rename_i c x x' ho
    simp only [ho]
    split at hk
    · rename_i b hc
      have hb := opd_sound hf c
      rw [hc] at hb
      have hb' := R.bool_inv hb
      rw [hb']
      cases b with
      | true => exact ⟨_, a.eval x, hk, rfl, opd_sound hf x⟩
      | false => exact ⟨_, a.eval x', hk, rfl, opd_sound hf x'⟩
    · simp at hk
  · rename_i t x ho
    simp only [ho]
    split at hk
    · rename_i b hc
      have hb := opd_sound hf x
      rw [hc] at hb
      obtain ⟨v, u, h1, h2, h3⟩ := load_sound (P := P) hs hb hk
      exact ⟨v, u, h1, lift _ _ h2, h3⟩
    · simp at hk
  · rename_i x ho
    simp only [ho]
    have hb := opd_sound hf x
    split at hk
    · rename_i hc; rw [hc] at hb; generalize a.eval x = u at hb; cases hb with | ptr h => exact ⟨_, _, hk, rfl, R.ptr h⟩
    · rename_i hc; rw [hc] at hb; generalize a.eval x = u at hb; cases hb with | eptr h hi hj => exact ⟨_, _, hk, rfl, R.eptr h hi hj⟩
    · rename_i hc; rw [hc] at hb; generalize a.eval x = u at hb; cases hb with | rop uu hsp hx hr => exact ⟨_, _, hk, rfl, R.rop uu hsp hx hr⟩
    · rename_i hc; rw [hc] at hb; generalize a.eval x = u at hb; cases hb with | fn hn hr => exact ⟨_, _, hk, rfl, R.fn hn hr⟩
    · simp at hk
  · rename_i op t x x' _ ho
    simp only [ho]
    obtain ⟨v, u, h1, h2, h3⟩ := bin_sound (P := P) (w := w) (ox := x) (oy := x') (opd_sound hf x) (opd_sound hf x') hk
    exact ⟨v, u, h1, lift _ _ h2, h3⟩
  · rename_i op _ x ho
    simp only [ho]
    obtain ⟨v, u, h1, h2, h3⟩ := un_sound (P := P) (w := w) (opd_sound hf x) hk
    exact ⟨v, u, h1, lift _ _ h2, h3⟩
  · rename_i s d x ho
    simp only [ho]
    obtain ⟨v, u, h1, h2, h3⟩ := conv_sound (P := P) (w := w) hs (opd_sound hf x) hk
    exact ⟨v, u, h1, lift _ _ h2, h3⟩
  · rename_i t x ho
    simp only [ho]
    obtain ⟨v, u, h1, h2, h3⟩ := iface_sound (P := P) (w := w) (opd_sound hf x) hk
    exact ⟨v, u, h1, lift _ _ h2, h3⟩
  · rename_i f first cap ho
    simp only [ho]
    split at hk
    · rename_i cs hfi hcs
      obtain ⟨h1, h2⟩ := atomsIn_get hcs
      obtain ⟨g1, g2⟩ := argsA_get hf cap.toList
      have hfirst : first = #[] := by cases first; simp_all
      refine ⟨_, .func (.func f) #[] (cap.map a.eval), hk, ?_, R.fn (by simp; rw [h1, g1]; simp) fun j x hj => ?_⟩
      · apply lift; simp [Instr.makeFunc, hfirst]
      · have this : R RT E x _ := g2 j _ (h2 j x hj)
        simpa [Array.getD_eq_getD_getElem?, List.getD_eq_getElem?_getD] using this
    · simp at hk
  · rename_i t x f ho
    simp only [ho]
    obtain ⟨v, u, h1, h2, h3⟩ := fieldAddr_sound (P := P) (w := w) (opd_sound hf x) hk
    exact ⟨v, u, h1, lift _ _ h2, h3⟩
  · rename_i t x f ho
    simp only [ho]
    obtain ⟨v, u, h1, h2, h3⟩ := field_sound (P := P) (w := w) (opd_sound hf x) hk
    exact ⟨v, u, h1, lift _ _ h2, h3⟩
  · rename_i t x ix ho
    simp only [ho]
    obtain ⟨v, u, h1, h2, h3⟩ := indexAddr_sound (P := P) hs (opd_sound hf x) (opd_sound hf ix) hk
    exact ⟨v, u, h1, lift _ _ h2, h3⟩
  · rename_i t x ix ho
    simp only [ho]
    obtain ⟨v, u, h1, h2, h3⟩ := index_sound (P := P) (w := w) (opd_sound hf x) (opd_sound hf ix) hk
    exact ⟨v, u, h1, lift _ _ h2, h3⟩
  · rename_i x xt t ok ho
    simp only [ho]
    obtain ⟨v, u, h1, h2, h3⟩ := assert_sound (P := P) (w := w) (xt := xt) (opd_sound hf x) hk
    refine ⟨v, u, h1, lift _ _ ?_, h3⟩
    exact h2
  · rename_i x i ho
    simp only [ho]
    obtain ⟨v, u, h1, h2, h3⟩ := extract_sound (P := P) (w := w) (opd_sound hf x) hk
    exact ⟨v, u, h1, lift _ _ h2, h3⟩
  · rename_i t parts ho
    simp only [ho]
    have hp := parts_sound hf parts.toList
    have hp' : All2 (fun (p : Nat × AV) (q : Nat × Value) => p.1 = q.1 ∧ RV RT E p.2 q.2) (partsA F parts.toList) (parts.map fun (i, x) => (i, a.eval x)).toList := by
      simpa using hp
    obtain ⟨v, u, h1, h2, h3⟩ := build_sound (P := P) (w := w) hp' hk
    exact ⟨v, u, h1, lift _ _ h2, h3⟩
  · rename_i t x lo hi mx ho
    simp only [ho]
    cases mx with
    | some m => simp [evSlice] at hk
    | none =>
      obtain ⟨v, u, h1, h2, h3⟩ := slice_sound (P := P) hs (opd_sound hf x) (optA_sound hf lo) (optA_sound hf hi) hk
      exact ⟨v, u, h1, lift _ _ h2, h3⟩
  · rename_i c ho
    simp only [ho]
    have hres : ∀ b, c.callee = .builtin b → (do let d ← resolve a.eval c o.type; invoke d.target d.args : Sem Next) =
        builtin b c.argTypes o.type (c.args.map fun | .const _ => true | _ => false) (c.args.map a.eval) := by
      intro b hb
      simp only [resolve, hb]
      rfl
    obtain ⟨g1, g2⟩ := argsA_get hf c.args.toList
    have hmap : (c.args.toList.map a.eval).toArray = c.args.map a.eval := by apply Array.ext'; simp
    split at hk
    · rename_i hb
      rw [hres _ hb]
      obtain ⟨v, u, h1, h2, h3⟩ := minmax_sound (P := P) (w := w) g2 (by rw [g1]; simp) hk c.argTypes o.type
      refine ⟨v, u, h1, ?_, h3⟩
      simp only [builtin]
      apply lift
      rw [hmap] at h2
      simpa using h2
    · rename_i hb
      rw [hres _ hb]
      obtain ⟨v, u, h1, h2, h3⟩ := minmax_sound (P := P) (w := w) g2 (by rw [g1]; simp) hk c.argTypes o.type
      refine ⟨v, u, h1, ?_, h3⟩
      simp only [builtin]
      apply lift
      rw [hmap] at h2
      simpa using h2
    · rename_i hb
      rw [hres _ hb]
      split at hk
      · rename_i x t hx ht
        have hlen : c.args.toList.length = 1 := by rw [← g1, hx]; rfl
        obtain ⟨x0, hx0⟩ : ∃ x0, c.args.toList = [x0] := by
          match hc : c.args.toList, hlen with
          | [x0], _ => exact ⟨x0, rfl⟩
        have hxv := g2 0 x (by rw [hx]; rfl)
        rw [hx0] at hxv
        have hargs : c.args.map a.eval = #[a.eval x0] := by
          apply Array.ext'
          simp [hx0]
        obtain ⟨v, u, h1, h2, h3⟩ := len_sound (P := P) hs (u := a.eval x0) (by simpa using hxv) hk c.argTypes (by
          have : c.argTypes.toList[0]? = some t := by rw [ht]; rfl
          simpa using this) o.type
        refine ⟨v, u, h1, ?_, h3⟩
        simp only [builtin]
        apply lift
        rw [hargs]
        exact h2
      · simp at hk
    · simp at hk
  · simp at hk

end Go.Eng
