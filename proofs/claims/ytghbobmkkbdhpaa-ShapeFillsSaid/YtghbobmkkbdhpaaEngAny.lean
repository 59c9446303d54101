/-
  The engine, part twelve (d): a region in whatever order comes to what it comes to in the text's.
  Conditions: none; nothing is claimed of the program here.
-/
import Derived.Test.YtghbobmkkbdhpaaEngTrace
set_option linter.unusedSimpArgs false
set_option linter.unusedVariables false
namespace Go.Eng
variable {RT : RoTab} {E : Env} {F : Fr} {a : Act} {H : Heap} {fp : Fp} {w : World} {P : Program} {Y : Type} {y : Y} {C : Cfg} {K : FCfg} {ops : Array Oper}

/-- What is given. -/
structure Setup (C : Cfg) (K : FCfg) (ops : Array Oper) (k : KS Y) (y : Y) (F : Fr) (H : Heap) (nx N : Nat) (r : Nat → Rec) (hsF : List Heap) (chsF : List Nat) (rdsF : List Rd) : Prop where
  hC : CfgOK C
  tr : TraceOK C K ops (ancsOf [] ops.toList) k y 0 ops.size F H nx [H] [] [] r hsF chsF rdsF
  back : backEdges 0 ops.toList = true
  pairs : pairsOk ops.toList (ancsOf [] ops.toList) [] ops.toList = true
  chain : chainOk K (ancsOf [] ops.toList) [] ops.toList = true
  dst : dstOps N ops.toList = true

variable {k : KS Y} {nx N : Nat} {r : Nat → Rec} {hsF : List Heap} {chsF : List Nat} {rdsF : List Rd}

theorem op_lt {i : Nat} {o : Oper} (h : ops[i]? = some o) : i < ops.size := (Array.getElem?_eq_some_iff.1 h).1

theorem Setup.τ_step (S : Setup C K ops k y F H nx N r hsF chsF rdsF) {j : Nat} (hj : j < ops.size) : (r j).τ ≤ (r (j + 1)).τ ∧ ((r j).τ = (r (j + 1)).τ → (r j).nx = (r (j + 1)).nx) := by
  have h := S.tr.step j ops[j] (Nat.zero_le _) (by simp [hj])
  rcases h with ⟨_, _, _, _, _, h1, h2⟩ | ⟨_, _, _, ⟨_, _, h2⟩ | ⟨_, _, _, _, h1, h2⟩ | ⟨_, _, _, _, h1, h2⟩⟩
  · exact ⟨by omega, fun _ => h1.symm⟩
  · exact ⟨by omega, fun h => by omega⟩
  · exact ⟨by omega, fun _ => h1.symm⟩
  · exact ⟨by omega, fun _ => h1.symm⟩

theorem Setup.τ_mono (S : Setup C K ops k y F H nx N r hsF chsF rdsF) {j : Nat} : ∀ d, j + d ≤ ops.size → (r j).τ ≤ (r (j + d)).τ ∧ ((r j).τ = (r (j + d)).τ → (r j).nx = (r (j + d)).nx)
  | 0, _ => ⟨Nat.le_refl _, fun _ => rfl⟩
  | d + 1, h => by
    obtain ⟨h1, h2⟩ := S.τ_mono (j := j) d (by omega)
    obtain ⟨h3, h4⟩ := S.τ_step (j := j + d) (by omega)
    rw [show j + (d + 1) = j + d + 1 by omega]
    exact ⟨by omega, fun he => (h2 (by omega)).trans (h4 (by omega))⟩

theorem Setup.τ_le (S : Setup C K ops k y F H nx N r hsF chsF rdsF) {i j : Nat} (hij : i ≤ j) (hj : j ≤ ops.size) : (r i).τ ≤ (r j).τ := by
  have := (S.τ_mono (j := i) (j - i) (by omega)).1
  rwa [show i + (j - i) = j by omega] at this

theorem Setup.same_time (S : Setup C K ops k y F H nx N r hsF chsF rdsF) {i j : Nat} (hi : i ≤ ops.size) (hj : j ≤ ops.size) (h : (r i).τ = (r j).τ) : (r i).H = (r j).H ∧ (r i).nx = (r j).nx := by
  constructor
  · have h1 := S.tr.heap i (Nat.zero_le _) (by omega)
    have h2 := S.tr.heap j (Nat.zero_le _) (by omega)
    rw [h, h2] at h1
    exact (Option.some.inj h1).symm
  · rcases Nat.le_total i j with hij | hij
    · have := (S.τ_mono (j := i) (j - i) (by omega)).2
      rw [show i + (j - i) = j by omega] at this
      exact this h
    · have := (S.τ_mono (j := j) (i - j) (by omega)).2
      rw [show j + (i - j) = i by omega] at this
      exact (this h.symm).symm

theorem Setup.frame (S : Setup C K ops k y F H nx N r hsF chsF rdsF) : ∀ (j t : Nat), j ≤ ops.size →
    (∃ m o, m < j ∧ ops[m]? = some o ∧ o.dst = some t ∧ (r j).F t = (r m).v) ∨ ((∀ m o, m < j → ops[m]? = some o → o.dst ≠ some t) ∧ (r j).F t = F t)
  | 0, t, _ => Or.inr ⟨fun m o h => by omega, by rw [S.tr.start.1]⟩
  | j + 1, t, hj => by
    have hoj : ops[j]? = some ops[j] := by simp [show j < ops.size by omega]
    have hF : (r (j + 1)).F = putO (r j).F ops[j].dst (r j).v := by
      rcases S.tr.step j _ (Nat.zero_le _) hoj with ⟨_, _, _, h, _⟩ | ⟨_, _, h, _⟩ <;> exact h
    by_cases hd : ops[j].dst = some t
    · refine Or.inl ⟨j, _, by omega, hoj, hd, ?_⟩
      rw [hF, hd]
      simp only [putO, putF_same]
    · have hFt : (r (j + 1)).F t = (r j).F t := by
        rw [hF]
        cases hdd : ops[j].dst with
        | none => rfl
        | some d =>
          simp only [putO]
          exact putF_other fun he => hd (by rw [hdd, he])
      rcases S.frame j t (by omega) with ⟨m, o, h1, h2, h3, h4⟩ | ⟨h1, h2⟩
      · exact Or.inl ⟨m, o, by omega, h2, h3, by rw [hFt, h4]⟩
      · refine Or.inr ⟨fun m o hm ho => ?_, by rw [hFt, h2]⟩
        by_cases he : m = j
        · subst he
          rw [hoj] at ho
          obtain rfl := Option.some.inj ho
          exact hd
        · exact h1 m o (by omega) ho

theorem anc_get {i : Nat} {o : Oper} (h : ops[i]? = some o) : (ancsOf [] ops.toList)[i]? = some (edgesOf ((ancsOf [] ops.toList).take i) o.after.toList) := by
  have := (ancsOf_get (os := ops.toList) (acc := [])).2.2 i o (by simpa using h)
  simpa using this

theorem anc_len : (ancsOf [] ops.toList).length = ops.toList.length := by
  have := (ancsOf_get (os := ops.toList) (acc := [])).2.1
  simpa using this

theorem Setup.pair (S : Setup C K ops k y F H nx N r hsF chsF rdsF) {i m : Nat} {x b : Oper} (hx : ops[i]? = some x) (hb : ops[m]? = some b) (him : i < m) :
    pairOk ops.toList (bit (nthD 0 (ancsOf [] ops.toList) m) i) x b = true := by
  have ha := anc_get hb
  have := pairsOk_get S.pairs anc_len m i b x _ (by simpa using hb) ha (by simpa using hx) (by simpa using him)
  rwa [show nthD 0 (ancsOf [] ops.toList) m = edgesOf ((ancsOf [] ops.toList).take m) b.after.toList by rw [nthD_eq, List.getD_eq_getElem?_getD, ha]; rfl]

theorem Setup.chained (S : Setup C K ops k y F H nx N r hsF chsF rdsF) {i m : Nat} {x b : Oper} (hx : ops[i]? = some x) (hb : ops[m]? = some b) (him : i < m) (hcx : isC K x = true) (hcb : isC K b = true) :
    bit (nthD 0 (ancsOf [] ops.toList) m) i = true := by
  have ha := anc_get hb
  have := chainOk_get S.chain anc_len m i b x _ (by simpa using hb) ha (by simpa using hx) (by simpa using him) hcb hcx
  rwa [show nthD 0 (ancsOf [] ops.toList) m = edgesOf ((ancsOf [] ops.toList).take m) b.after.toList by rw [nthD_eq, List.getD_eq_getElem?_getD, ha]; rfl]

theorem eqO_some {x z : Option Tmp} {d : Tmp} (hx : x = some d) (hz : z = some d) : eqO x z = true := by
  subst hx; subst hz; simp [eqO]

theorem Setup.dst_ne (S : Setup C K ops k y F H nx N r hsF chsF rdsF) {i m : Nat} {x b : Oper} {d : Tmp} (hx : ops[i]? = some x) (hb : ops[m]? = some b) (hxd : x.dst = some d) (hbd : b.dst = some d) : i = m := by
  have key : ∀ {i m : Nat} {x b : Oper}, ops[i]? = some x → ops[m]? = some b → x.dst = some d → b.dst = some d → ¬ i < m := by
    intro i m x b hx hb hxd hbd him
    have := S.pair hx hb him
    unfold pairOk at this
    rw [eqO_some hxd hbd] at this
    simp at this
  have h1 := key hx hb hxd hbd
  have h2 := key hb hx hbd hxd
  omega

/-- Who is ahead of one whose edges are done is done. -/
theorem anc_done (hback : backEdges 0 ops.toList = true) {Λ : Array Bool} (hcl : ∀ j o, ops[j]? = some o → Λ.getD j false = true → ∀ e ∈ o.after, bindsAny e.ground = true → Λ.getD e.on false = true) :
    ∀ (n i : Nat) (o : Oper), i < n → ops[i]? = some o → (∀ e ∈ o.after, bindsAny e.ground = true → Λ.getD e.on false = true) → ∀ m, bit (nthD 0 (ancsOf [] ops.toList) i) m = true → Λ.getD m false = true
  | 0, i, o, h, _, _, _, _ => by omega
  | n + 1, i, o, h, ho, he, m, hm => by
    have ha := anc_get ho
    rw [nthD_eq, List.getD_eq_getElem?_getD, ha] at hm
    simp only [Option.getD_some] at hm
    obtain ⟨e, hel, hb, h1⟩ := edgesOf_bit hm
    have hel' : e ∈ o.after := by simpa using hel
    have hlt := backEdges_get hback (by simpa using ho : ops.toList[i]? = some o) hel' hb
    rw [Nat.zero_add] at hlt
    rcases h1 with rfl | h1
    · exact he e hel' hb
    · rw [nthD_take hlt] at h1
      have hlt2 : e.on < ops.size := by have := op_lt ho; omega
      have hon : ops[e.on]? = some ops[e.on] := by simp [hlt2]
      exact anc_done hback hcl n e.on _ (by omega) hon (hcl e.on _ hon (he e hel' hb)) m h1

/-- Where some have come up. -/
structure Inv (C : Cfg) (K : FCfg) (ops : Array Oper) (F : Fr) (r : Nat → Rec) (N : Nat) (E0 : Env) (H0 : Heap) (fp0 : Fp) (w0 : World) (nx0 : Nat) (a0 : Act) (Λ : Array Bool) (E : Env) (fp : Fp) (w : World) (a : Act) (p : Nat) : Prop where
  size : Λ.size = ops.size
  closed : ∀ j o, ops[j]? = some o → Λ.getD j false = true → ∀ e ∈ o.after, bindsAny e.ground = true → Λ.getD e.on false = true
  pn : p ≤ ops.size
  time : ∀ c o, ops[c]? = some o → isC K o = true → (r c).wd = true → (Λ.getD c false = true ↔ (r c).τ < (r p).τ)
  sim : Sim C.RT E (r p).H fp w
  step : Step E0 H0 fp0 w0 nx0 E (r p).H fp w (r p).nx
  got : ∀ m o d, ops[m]? = some o → o.dst = some d → Λ.getD m false = true → RV C.RT E (r m).v (a.tmps.getD d undef)
  not : ∀ d, (∀ m o, ops[m]? = some o → o.dst = some d → Λ.getD m false = false) → RV C.RT E (F d) (a.tmps.getD d undef)
  asz : a.tmps.size = N
  df : a.defers = []
  same : Same (asgOps ops.toList) a0 a

variable {E0 : Env} {H0 : Heap} {fp0 : Fp} {w0 : World} {nx0 : Nat} {a0 : Act} {Λ : Array Bool} {p : Nat}

theorem opdTmps_mem : ∀ {l : List Operand} {t : Tmp}, Operand.tmp t ∈ l → t ∈ opdTmps l
  | [], t, h => by simp at h
  | x :: l, t, h => by
    rcases List.mem_cons.1 h with rfl | h
    · simp [opdTmps]
    · have := opdTmps_mem h
      cases x <;> simp [opdTmps, this]

theorem eyes_opd {all : List Oper} {o : Oper} {t : Tmp} (h : Operand.tmp t ∈ o.op.operands) : t ∈ eyes all o := by
  have := opdTmps_mem (l := o.op.operands.toList) (t := t) (by simpa using h)
  unfold eyes
  split
  · split
    · simp [this]
    · exact this
  · exact this

theorem eyes_guard {all : List Oper} {o : Oper} {g : Nat} {want : Bool} {d : Tmp} (h : o.guard = some (g, want)) (hd : dstAt all g = some d) : d ∈ eyes all o := by
  unfold eyes
  simp only [h, hd]
  simp

theorem memO_some {l : List Tmp} {x : Option Tmp} {d : Tmp} (hx : x = some d) (hd : d ∈ l) : memO l x = true := by
  subst hx
  exact mem_iff.2 hd

/-- What an operation that may come up looks at is what it looks at in the text's order. -/
theorem Inv.sees (S : Setup C K ops k y F H nx N r hsF chsF rdsF) (I : Inv C K ops F r N E0 H0 fp0 w0 nx0 a0 Λ E fp w a p) {i : Nat} {o : Oper} (ho : ops[i]? = some o) (hun : Λ.getD i false = false)
    (hed : ∀ e ∈ o.after, bindsAny e.ground = true → Λ.getD e.on false = true) {t : Tmp} (ht : t ∈ eyes ops.toList o) : RV C.RT E ((r i).F t) (a.tmps.getD t undef) := by
  have hdone := anc_done S.back I.closed (i + 1) i o (by omega) ho hed
  rcases S.frame i t (by have := op_lt ho; omega) with ⟨m, om, h1, h2, h3, h4⟩ | ⟨h1, h2⟩
  · rw [h4]
    refine I.got m om t h2 h3 (hdone m ?_)
    have := S.pair h2 ho h1
    unfold pairOk at this
    rw [memO_some h3 ht] at this
    simp only [Bool.not_true, Bool.false_and, Bool.or_false, Bool.and_eq_true] at this
    exact this.2
  · rw [h2]
    refine I.not t fun m om hm hd => ?_
    have hmi : ¬ m < i := fun h => h1 m om h hm hd
    rcases Nat.lt_or_ge i m with him | him
    · have := S.pair ho hm him
      unfold pairOk at this
      rw [memO_some hd ht] at this
      simp only [Bool.not_true, Bool.and_false, Bool.or_false, Bool.and_eq_true] at this
      cases hl : Λ.getD m false with
      | false => rfl
      | true =>
        have := anc_done S.back I.closed (m + 1) m om (by omega) hm (I.closed m om hm hl) i this.2
        rw [hun] at this; simp at this
    · have : m = i := by omega
      rw [this]; exact hun

theorem getD_set_self {i : Nat} (h : i < Λ.size) : (Λ.setIfInBounds i true).getD i false = true := by
  simp [h]

/-- One more has come up. -/
theorem Inv.next (S : Setup C K ops k y F H nx N r hsF chsF rdsF) (I : Inv C K ops F r N E0 H0 fp0 w0 nx0 a0 Λ E fp w a p) {i : Nat} {o : Oper} (ho : ops[i]? = some o)
    (hed : ∀ e ∈ o.after, bindsAny e.ground = true → Λ.getD e.on false = true) {E' : Env} {fp' : Fp} {w' : World} {u : Value} {p' : Nat} (hp' : p' ≤ ops.size) (hs' : Sim C.RT E' (r p').H fp' w')
    (hst : Step E (r p).H fp w (r p).nx E' (r p').H fp' w' (r p').nx) (hv : RV C.RT E' (r i).v u)
    (ht : ∀ c o, ops[c]? = some o → isC K o = true → (r c).wd = true → ((Λ.setIfInBounds i true).getD c false = true ↔ (r c).τ < (r p').τ)) :
    Inv C K ops F r N E0 H0 fp0 w0 nx0 a0 (Λ.setIfInBounds i true) E' fp' w' (a.put o.dst u) p' := by
  have hi := op_lt ho
  have hdl : ∀ d, o.dst = some d → d < a.tmps.size := by
    intro d hd
    rw [I.asz]
    have key : ∀ l : List Oper, dstOps N l = true → o ∈ l → d < N := by
      intro l
      induction l with
      | nil => intro _ h; simp at h
      | cons x l ih =>
        intro h hm
        obtain ⟨h1, h2⟩ := dstOps_cons h
        rcases List.mem_cons.1 hm with rfl | hm
        · exact h1 d hd
        · exact ih h2 hm
    exact key _ S.dst (by simpa using Array.mem_of_getElem? ho)
  have hself : (Λ.setIfInBounds i true).getD i false = true := getD_set_self (by rw [I.size]; exact hi)
  refine ⟨by simp [I.size], fun j oj hj hl e he hb => ?_, hp', ht, hs', I.step.trans hst, fun m om d hm hd hl => ?_, fun d hd => ?_, by rw [Act.put_size]; exact I.asz, by cases o.dst <;> exact I.df, ?_⟩
  · by_cases hij : i = j
    · subst hij
      rw [ho] at hj
      obtain rfl := Option.some.inj hj
      exact getD_set_true (hed e he hb)
    · rw [getD_set_ne false hij] at hl
      exact getD_set_true (I.closed j oj hj hl e he hb)
  · by_cases him : i = m
    · subst him
      rw [ho] at hm
      obtain rfl := Option.some.inj hm
      rw [hd]
      simp only [Act.put]
      rw [getD_set_same (hdl d hd)]
      exact hv
    · rw [getD_set_ne false him] at hl
      have hne : o.dst ≠ some d := fun h => him (S.dst_ne ho hm h hd)
      have : (a.put o.dst u).tmps.getD d undef = a.tmps.getD d undef := by
        cases hod : o.dst with
        | none => rfl
        | some d' =>
          simp only [Act.put]
          exact getD_set_other fun he => hne (by rw [hod, he])
      rw [this]
      exact (I.got m om d hm hd hl).mono hst.le
  · have hne : o.dst ≠ some d := fun h => by
      have := hd i o ho h
      rw [hself] at this
      simp at this
    have : (a.put o.dst u).tmps.getD d undef = a.tmps.getD d undef := by
      cases hod : o.dst with
      | none => rfl
      | some d' =>
        simp only [Act.put]
        exact getD_set_other fun he => hne (by rw [hod, he])
    rw [this]
    refine (I.not d fun m om hm hdm => ?_).mono hst.le
    have := hd m om hm hdm
    by_cases him : i = m
    · subst him; rw [hself] at this; simp at this
    · rwa [getD_set_ne false him] at this
  · refine I.same.trans ((Same.put a o.dst u).mono fun j hj => ?_)
    have key : ∀ l : List Oper, o ∈ l → asgOps l j = true := by
      intro l
      induction l with
      | nil => intro h; simp at h
      | cons x l ih =>
        intro hm
        rcases List.mem_cons.1 hm with rfl | hm
        · exact asgOps_head hj
        · exact asgOps_tail (ih hm)
    exact key _ (by simpa using Array.mem_of_getElem? ho)

theorem noInl_ok : InlOK C noInl := fun Y y g args H nx k E fp w cargs hk => by simp [noInl] at hk

/-- An operation that may come up. -/
theorem Inv.op (S : Setup C K ops k y F H nx N r hsF chsF rdsF) (I : Inv C K ops F r N E0 H0 fp0 w0 nx0 a0 Λ E fp w a p) {i : Nat} {o : Oper} (ho : ops[i]? = some o) (hun : Λ.getD i false = false)
    (hed : ∀ e ∈ o.after, bindsAny e.ground = true → Λ.getD e.on false = true) {Q : Exit → Act → World → Prop} {Kk : Act → World → Prop}
    (hK : ∀ E' fp' w' a' p', Inv C K ops F r N E0 H0 fp0 w0 nx0 a0 (Λ.setIfInBounds i true) E' fp' w' a' p' → Kk a' w') : wpOp C.P ops Q i Kk a w := by
  have hi := op_lt ho
  have hdone := anc_done S.back I.closed (i + 1) i o (by omega) ho hed
  have hG : GuardRel ops o C.RT E (r i).F a := fun g want d hg hd => I.sees S ho hun hed (eyes_guard hg hd)
  have hrf : RF C.RT E (only o.op.operands (r i).F) a := only_rf fun t ht => I.sees S ho hun hed (eyes_opd ht)
  have hco : ∀ x ∈ o.op.operands, evOpd (r i).F x = evOpd (only o.op.operands (r i).F) x := fun x hx => (only_opd hx).symm
  -- the time of the others stays
  have htime : ¬ (isC K o = true ∧ (r i).wd = true) → ∀ c oc, ops[c]? = some oc → isC K oc = true → (r c).wd = true → ((Λ.setIfInBounds i true).getD c false = true ↔ (r c).τ < (r p).τ) := by
    intro hn c oc hc hic hwd
    have hne : i ≠ c := fun he => by subst he; rw [ho] at hc; obtain rfl := Option.some.inj hc; exact hn ⟨hic, hwd⟩
    rw [getD_set_ne false hne]
    exact I.time c oc hc hic hwd
  unfold wpOp
  simp only [ho]
  rcases S.tr.step i o (Nat.zero_le _) ho with ⟨h1, h2, h3, _⟩ | ⟨h1, h2, _, h3⟩
  · rw [if_neg (by rw [h2 _ _ _ hG]; simp)]
    exact hK E fp w _ p (I.next S ho hed I.pn I.sim (Step.refl I.step.fresh) (by rw [h3]; exact R.und) (htime fun h => by rw [h1] at h; simp at h))
  · rw [if_pos (h2 _ _ _ hG)]
    left
    rcases h3 with ⟨hc, hev, hτ⟩ | ⟨hc, hl, hev, _⟩ | ⟨hc, hl, hev, hrest⟩
    · -- it turns memory: it is its turn
      have hτp : (r i).τ = (r p).τ := by
        have hge : (r p).τ ≤ (r i).τ := by
          rcases Nat.lt_or_ge (r i).τ (r p).τ with h | h
          · have := (I.time i o ho hc h1).2 h
            rw [hun] at this; simp at this
          · exact h
        rcases Nat.lt_or_ge (r p).τ (r i).τ with h | h
        · exfalso
          have hlen : (r p).τ < chsF.length := by
            have := S.tr.ch i o (Nat.zero_le _) ho hc h1
            have hlt : (r i).τ < chsF.length := by
              rcases Nat.lt_or_ge (r i).τ chsF.length with h' | h'
              · exact h'
              · rw [List.getElem?_eq_none h'] at this; simp at this
            omega
          obtain ⟨_, g2, oc, g3, g4, g5⟩ := S.tr.chI (r p).τ chsF[(r p).τ] (by simp) (by simp [hlen])
          have hci : chsF[(r p).τ] < i := by
            rcases Nat.lt_or_ge chsF[(r p).τ] i with h' | h'
            · exact h'
            · have := S.τ_le h' (Nat.le_of_lt (op_lt g3))
              omega
          have hanc := S.chained g3 ho hci g4 hc
          have := (I.time _ oc g3 g4 g5).1 (hdone _ hanc)
          omega
        · omega
      obtain ⟨s1, s2⟩ := S.same_time (i := i) (j := p) (by omega) I.pn hτp
      rw [evC_congr hco, s1, s2] at hev
      refine evC_sound S.hC noInl_ok I.sim I.step.fresh hrf hev fun v u H' nx' E' fp' w' g1 g2 g3 g4 => ?_
      simp only [Option.some.injEq, Prod.mk.injEq] at g1
      obtain ⟨rfl, rfl, rfl⟩ := g1
      refine hK E' fp' w' _ (i + 1) (I.next S ho hed (by omega) g3 g4 g2 fun c oc hcc hic hwd => ?_)
      rw [hτ]
      by_cases hic' : i = c
      · subst hic'
        rw [getD_set_self (by rw [I.size]; exact hi)]
        simp
      · rw [getD_set_ne false hic', I.time c oc hcc hic hwd, ← hτp]
        constructor
        · intro h; omega
        · intro h
          rcases Nat.lt_or_ge (r c).τ (r i).τ with h' | h'
          · exact h'
          · exfalso
            have he : (r c).τ = (r i).τ := by omega
            have q1 := S.tr.ch c oc (Nat.zero_le _) hcc hic hwd
            have q2 := S.tr.ch i o (Nat.zero_le _) ho hc h1
            rw [he, q2] at q1
            exact hic' (Option.some.inj q1)
    · rw [evLit_congr hco] at hev
      obtain ⟨v, E', u, w', g1, g2, g3, g4, g5⟩ := lit_sound I.sim I.step.fresh hrf hev
      simp only [Option.some.injEq] at g1
      unfold Oper.wp
      rw [g2]
      exact hK E' fp w' _ p (I.next S ho hed I.pn g4 g5 (by rw [← g1]; exact g3) (htime fun h => by rw [hc] at h; simp at h))
    · have hevp : evR C.P C.RT (r p).H (r i).F o.op some = some (r i).v := by
        cases hlk : looks (r i).F o with
        | false => rw [evR_blind (H' := (r i).H) hlk]; exact hev
        | true =>
          by_cases hτ : (r p).τ = (r i).τ
          · rw [(S.same_time I.pn (by omega) hτ).1]; exact hev
          · have hrd := S.tr.rd i o (Nat.zero_le _) ho hc hl hlk h1
            refine (checkRds_get S.tr.fin).2 _ hrd (r p).τ (r p).H (S.tr.heap p (Nat.zero_le _) (by have := I.pn; omega)) (fits_of fun t c hct => ?_) hτ
            obtain ⟨_, g2, oc, g3, g4, g5⟩ := S.tr.chI t c (by simp) hct
            have htc := I.time c oc g3 g4 g5
            rw [g2] at htc
            constructor
            · intro ht
              cases hb : bit (nthD 0 (ancsOf [] ops.toList) c) i with
              | false => rfl
              | true =>
                have := anc_done S.back I.closed (c + 1) c oc (by omega) g3 (I.closed c oc g3 (htc.2 ht)) i hb
                rw [hun] at this; simp at this
            · intro ht
              cases hb : bit (nthD 0 (ancsOf [] ops.toList) i) c with
              | false => rfl
              | true =>
                have := htc.1 (hdone c hb)
                omega
      rw [evR_congr hco] at hevp
      obtain ⟨v, u, g1, g2, g3⟩ := evR_sound hrf I.sim hevp
      simp only [Option.some.injEq] at g1
      unfold Oper.wp
      rw [g2]
      exact hK E fp w _ p (I.next S ho hed I.pn I.sim (Step.refl I.step.fresh) (by rw [← g1]; exact g3) (htime fun h => by rw [hc] at h; simp at h))

theorem least_ready (hback : backEdges 0 ops.toList = true) (hsz : Λ.size = ops.size) (hr : Region.ready .any ops Λ = []) : ∀ (n j : Nat), j < n → j < ops.size → Λ.getD j false = true
  | 0, j, h, _ => by omega
  | n + 1, j, h, hj => by
    cases hl : Λ.getD j false with
    | true => rfl
    | false =>
      exfalso
      have hoj : ops[j]? = some ops[j] := by simp [hj]
      have : j ∈ Region.ready .any ops Λ := by
        rw [mem_ready]
        refine ⟨?_, _, hoj, fun e he hb => ?_⟩
        · have hlt : j < Λ.size := by omega
          simp [hlt] at hl ⊢
          exact hl
        · rw [binds_eq] at hb
          have := backEdges_get hback (by rw [Array.getElem?_toList]; exact hoj : ops.toList[j]? = some _) he hb
          exact least_ready hback hsz hr n e.on (by omega) (by omega)
      rw [hr] at this
      simp at this

theorem any_ok (S : Setup C K ops k y F H nx N r hsF chsF rdsF) {Q : Exit → Act → World → Prop}
    (hfin : ∀ Λ E fp w a p, Inv C K ops F r N E0 H0 fp0 w0 nx0 a0 Λ E fp w a p → (∀ j, j < ops.size → Λ.getD j false = true) → Q .normal a w) :
    ∀ (fuel : Nat) (Λ : Array Bool) (E : Env) (fp : Fp) (w : World) (a : Act) (p : Nat), Λ.toList.count false ≤ fuel → Inv C K ops F r N E0 H0 fp0 w0 nx0 a0 Λ E fp w a p → wpAny C.P .any ops Q fuel Λ a w
  | 0, Λ, E, fp, w, a, p, hf, I => by
    have hall : ∀ j, j < ops.size → Λ.getD j false = true := by
      intro j hj
      have hlt : j < Λ.size := by rw [I.size]; exact hj
      cases hl : Λ.getD j false with
      | true => rfl
      | false =>
        have hm : false ∈ Λ.toList := by
          simp [hlt] at hl
          rw [← hl]
          simp
        have := List.count_pos_iff.2 hm
        omega
    refine ⟨?_, hfin Λ E fp w a p I hall⟩
    rw [List.eq_nil_iff_forall_not_mem]
    intro j hj
    rw [mem_ready] at hj
    obtain ⟨h1, o, ho, _⟩ := hj
    have := hall j (op_lt ho)
    have hlt : j < Λ.size := by rw [I.size]; exact op_lt ho
    simp [hlt] at h1 this
    rw [this] at h1
    simp at h1
  | fuel + 1, Λ, E, fp, w, a, p, hf, I => by
    refine ⟨fun hr => hfin Λ E fp w a p I fun j hj => least_ready S.back I.size hr (j + 1) j (by omega) hj, fun i hi => ?_⟩
    rw [mem_ready] at hi
    obtain ⟨h1, o, ho, hed⟩ := hi
    have hlt : i < Λ.size := by rw [I.size]; exact op_lt ho
    have hun : Λ.getD i false = false := by simp [hlt] at h1 ⊢; exact h1
    refine I.op S ho hun (fun e he hb => hed e he (by rw [binds_eq]; exact hb)) fun E' fp' w' a' p' I' => any_ok S hfin fuel _ E' fp' w' a' p' ?_ I'
    have hli : Λ.toList[i]'(by simpa using hlt) = false := by simp [hlt] at hun; simpa using hun
    rw [Array.toList_setIfInBounds, List.count_set (by simpa using hlt)]
    rw [hli]
    have e1 : (false == false) = true := rfl
    have e2 : ¬ (true == false) = true := by decide
    rw [if_pos e1, if_neg e2]
    omega

/-- A REGION IN WHATEVER ORDER. -/
theorem evDrawC_sound (hC : CfgOK C) {id n : Nat} {Q : Exit → Act → World → Prop}
    (hk : gate (backEdges 0 ops.toList && (pairsOk ops.toList (ancsOf [] ops.toList) [] ops.toList && chainOk K (ancsOf [] ops.toList) [] ops.toList)) (evOpsA C K noInl ops.toList (ancsOf [] ops.toList) 0 ops.toList F H nx [H] [] [] k) = some y) (st : St C.RT E H fp w F a nx n) (hd : dstOps n ops.toList = true)
    (hQ : ∀ F' H' nx' E' fp' a' w', k F' H' nx' = some y → St C.RT E' H' fp' w' F' a' nx' n → Trip C E H fp w nx E' H' fp' w' nx' → Same (asgOps ops.toList) a a' → Q .normal a' w') :
    (Code.region id ops true).wp C.P Q a w := by
  rw [gate_some] at hk
  obtain ⟨hg, hk⟩ := hk
  simp only [Bool.and_eq_true] at hg
  obtain ⟨hb, hp, hch⟩ := hg
  obtain ⟨r, hsF, chsF, rdsF, tr⟩ := evOpsA_trace hC ops.toList 0 F H nx [H] [] [] hk rfl rfl (fun j => by simp)
  have S : Setup C K ops k y F H nx n r hsF chsF rdsF := ⟨hC, by simpa using tr, hb, hp, hch, hd⟩
  obtain ⟨s1, s2, s3, s4⟩ := S.tr.start
  have hdrew : Frm w (fun _ => False) { w with drawn := w.drawn + 1 } := Frm.drew w _
  have hsim : Sim C.RT E H fp { w with drawn := w.drawn + 1 } := st.sim.frm hdrew (fun _ _ h => h) (fun _ _ _ h => h)
  have hstep : Step E H fp w nx E H fp { w with drawn := w.drawn + 1 } nx := ⟨.refl E, Frm.drew w _, fun _ h _ => h, Nat.le_refl _, st.fresh, .refl _ _ _ _⟩
  refine wp_region_any hC.wide (any_ok (E0 := E) (H0 := H) (fp0 := fp) (w0 := w) (nx0 := nx) (a0 := a) S (fun Λ E' fp' w' a' p I hall => ?_) ops.size _ E fp _ a 0 (by simp) ?_)
  · have hfin := (checkRds_get S.tr.fin).1
    rw [Nat.zero_add] at hfin
    have hτ : (r p).τ = (r ops.size).τ := by
      have hle := S.τ_le I.pn (Nat.le_refl _)
      rcases Nat.lt_or_ge (r p).τ (r ops.size).τ with h | h
      · exfalso
        have hl := S.tr.last
        rw [Nat.zero_add] at hl
        obtain ⟨_, g2, oc, g3, g4, g5⟩ := S.tr.chI (r p).τ (chsF[(r p).τ]'(by omega)) (by simp) (by rw [List.getElem?_eq_getElem])
        have := (I.time _ oc g3 g4 g5).1 (hall _ (op_lt g3))
        omega
      · omega
    obtain ⟨e1, e2⟩ := S.same_time I.pn (Nat.le_refl _) hτ
    have hsim' := I.sim
    have hstep' := I.step
    rw [e1] at hsim'
    rw [e1, e2] at hstep'
    refine hQ _ _ _ E' fp' a' w' hfin ⟨hsim', hstep'.fresh, fun t => ?_, I.asz, I.df⟩ hstep'.trip I.same
    rcases S.frame ops.size t (Nat.le_refl _) with ⟨m, o, h1, h2, h3, h4⟩ | ⟨h1, h2⟩
    · rw [h4]
      exact I.got m o t h2 h3 (hall m h1)
    · rw [h2]
      exact I.not t fun m o hm hd => absurd hd (h1 m o (op_lt hm) hm)
  · refine ⟨by simp, fun j o hj hl => ?_, Nat.zero_le _, fun c o hc hic hwd => ?_, by rw [s2]; exact hsim, by rw [s2, s3]; exact hstep, fun m o d hm hd hl => ?_, fun d _ => st.rf d, st.size, st.df, .refl _ _⟩
    · have := op_lt hj
      simp [this] at hl
    · have := op_lt hc
      rw [s4]
      simp [this]
    · have := op_lt hm
      simp [this] at hl

end Go.Eng
