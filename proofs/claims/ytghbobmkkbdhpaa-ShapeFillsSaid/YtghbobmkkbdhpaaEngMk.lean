/-
  The engine, part twelve (e): a region that makes slices in whatever order.
  Conditions: none; nothing is claimed of the program here.
-/
import Derived.Test.YtghbobmkkbdhpaaEngAny
set_option linter.unusedSimpArgs false
set_option linter.unusedVariables false
namespace Go.Eng
variable {RT : RoTab} {E : Env} {F : Fr} {a : Act} {H : Heap} {fp : Fp} {w : World} {P : Program} {Y : Type} {y : Y} {C : Cfg} {K : FCfg} {ops : Array Oper}

/-- Ahead of an operation. -/
structure RecM where
  wd : Bool
  F : Fr
  G : Heap
  v : AV

def RecMOK (C : Cfg) (K : FCfg) (ops : Array Oper) (H : Heap) (nx i : Nat) (o : Oper) (r r' : RecM) : Prop :=
  r'.F = putO r.F o.dst r.v ∧
  ((r.wd = false ∧ WantIs ops o r.F false ∧ r.v = .at .und ∧ r'.G = r.G) ∨
   (r.wd = true ∧ WantIs ops o r.F true ∧
    ((isMk K o = true ∧ ∃ kd xs, evMk C r.F o.op (fun kd xs => some (kd, xs)) = some (kd, xs) ∧ r.v = .at (.full (nx + i) true) ∧ r'.G = putH r.G (nx + i) (some (.ints true kd xs))) ∨
     (isMk K o = false ∧ evR C.P C.RT H r.F o.op some = some r.v ∧ r'.G = r.G))))

theorem mkA_cp {t : TypeId} {l c : AV} {k : IntKind → List Int → Option Y} (h : mkA P t l c k = some y) : ∃ kd xs, mkA P t l c (fun kd xs => some (kd, xs)) = some (kd, xs) ∧ k kd xs = some y := by
  unfold mkA at h ⊢
  split at h
  · split at h
    · rw [gate_some, chk_some] at h
      obtain ⟨h1, h2, h3⟩ := h
      refine ⟨_, _, ?_, h3⟩
      rw [gate_some, chk_some]
      exact ⟨h1, h2, rfl⟩
    · simp at h
  · simp at h
theorem evMk_cp {op : Op} {k : IntKind → List Int → Option Y} (h : evMk C F op k = some y) : ∃ kd xs, evMk C F op (fun kd xs => some (kd, xs)) = some (kd, xs) ∧ k kd xs = some y := by
  unfold evMk at h ⊢
  split at h
  · exact mkA_cp h
  · simp at h

theorem evMks_trace {H : Heap} {nx : Nat} {k : Fr → Heap → Option Y} : ∀ (os : List Oper) (i : Nat) (F : Fr) (G : Heap),
    evMks C K ops.toList H nx i os F G k = some y → (∀ j, os[j]? = ops[i + j]?) →
    ∃ r : Nat → RecM, (r i).F = F ∧ (r i).G = G ∧ (∀ j o, i ≤ j → ops[j]? = some o → RecMOK C K ops H nx j o (r j) (r (j + 1))) ∧ k (r (i + os.length)).F (r (i + os.length)).G = some y
  | [], i, F, G, hk, ho => by
    simp only [evMks] at hk
    refine ⟨fun _ => ⟨false, F, G, .at .unk⟩, rfl, rfl, fun j o hj hjo => ?_, hk⟩
    have := ho (j - i)
    rw [show i + (j - i) = j by omega, hjo] at this
    simp at this
  | o :: os, i, F, G, hk, ho => by
    have ho0 : ops[i]? = some o := by simpa using (ho 0).symm
    have ho' : ∀ j, os[j]? = ops[i + 1 + j]? := fun j => by
      have := ho (j + 1)
      rw [show i + (j + 1) = i + 1 + j by omega] at this
      simpa using this
    have fin : ∀ (wd : Bool) (v : AV) (F' : Fr) (G' : Heap), evMks C K ops.toList H nx (i + 1) os F' G' k = some y →
        (∀ r' : RecM, r'.F = F' → r'.G = G' → RecMOK C K ops H nx i o ⟨wd, F, G, v⟩ r') →
        ∃ r : Nat → RecM, (r i).F = F ∧ (r i).G = G ∧ (∀ j o, i ≤ j → ops[j]? = some o → RecMOK C K ops H nx j o (r j) (r (j + 1))) ∧ k (r (i + (o :: os).length)).F (r (i + (o :: os).length)).G = some y := by
      intro wd v F' G' hk' hok
      obtain ⟨r, r1, r2, r3, r4⟩ := evMks_trace os (i + 1) F' G' hk' ho'
      refine ⟨fun j => if j = i then ⟨wd, F, G, v⟩ else r j, by simp, by simp, fun j o' hj hjo => ?_, ?_⟩
      · by_cases he : j = i
        · subst he
          rw [ho0] at hjo
          obtain rfl := Option.some.inj hjo
          simp only [if_true, if_neg (show j + 1 ≠ j by omega)]
          exact hok _ r1 r2
        · simp only [if_neg he, if_neg (show j + 1 ≠ i by omega)]
          exact r3 j o' (by omega) hjo
      · simp only [List.length_cons, if_neg (show i + (os.length + 1) ≠ i by omega)]
        rw [show i + (os.length + 1) = i + 1 + os.length by omega]
        exact r4
    simp only [evMks] at hk
    rcases evGuard_all hk with ⟨hw, hk⟩ | ⟨hw, hk⟩
    · cases hm : isMk K o with
      | true =>
        simp only [hm] at hk
        obtain ⟨kd, xs, h1, h2⟩ := evMk_cp hk
        exact fin true _ _ _ h2 fun r' e1 e2 => ⟨e1, Or.inr ⟨rfl, hw, Or.inl ⟨hm, kd, xs, h1, rfl, e2⟩⟩⟩
      | false =>
        simp only [hm] at hk
        rw [gate_some] at hk
        obtain ⟨_, hk⟩ := hk
        obtain ⟨v, h1, h2⟩ := evR_cp _ _ _ hk
        exact fin true v _ _ h2 fun r' e1 e2 => ⟨e1, Or.inr ⟨rfl, hw, Or.inr ⟨hm, h1, e2⟩⟩⟩
    · exact fin false _ _ _ hk fun r' e1 e2 => ⟨e1, Or.inl ⟨rfl, hw, rfl, e2⟩⟩

/-- What is given. -/
structure SetM (C : Cfg) (K : FCfg) (ops : Array Oper) (F : Fr) (H : Heap) (nx N : Nat) (r : Nat → RecM) : Prop where
  hC : CfgOK C
  F0 : (r 0).F = F
  G0 : (r 0).G = H
  step : ∀ j o, ops[j]? = some o → RecMOK C K ops H nx j o (r j) (r (j + 1))
  back : backEdges 0 ops.toList = true
  pairs : pairsOk ops.toList (ancsOf [] ops.toList) [] ops.toList = true
  dst : dstOps N ops.toList = true

variable {nx N : Nat} {r : Nat → RecM}

theorem SetM.frame (S : SetM C K ops F H nx N r) : ∀ (j t : Nat), j ≤ ops.size →
    (∃ m o, m < j ∧ ops[m]? = some o ∧ o.dst = some t ∧ (r j).F t = (r m).v) ∨ ((∀ m o, m < j → ops[m]? = some o → o.dst ≠ some t) ∧ (r j).F t = F t)
  | 0, t, _ => Or.inr ⟨fun m o h => by omega, by rw [S.F0]⟩
  | j + 1, t, hj => by
    have hoj : ops[j]? = some ops[j] := by simp [show j < ops.size by omega]
    have hF : (r (j + 1)).F = putO (r j).F ops[j].dst (r j).v := (S.step j _ hoj).1
    by_cases hd : ops[j].dst = some t
    · refine Or.inl ⟨j, _, by omega, hoj, hd, ?_⟩
      rw [hF, hd]
      simp only [putO, putF_same]
    · have hFt : (r (j + 1)).F t = (r j).F t := by
        rw [hF]
        cases hdd : ops[j].dst with
        | none => rfl
        | some d =>
          simp only [putO]
          exact putF_other fun he => hd (by rw [hdd, he])
      rcases S.frame j t (by omega) with ⟨m, o, h1, h2, h3, h4⟩ | ⟨h1, h2⟩
      · exact Or.inl ⟨m, o, by omega, h2, h3, by rw [hFt, h4]⟩
      · refine Or.inr ⟨fun m o hm ho => ?_, by rw [hFt, h2]⟩
        by_cases he : m = j
        · subst he
          rw [hoj] at ho
          obtain rfl := Option.some.inj ho
          exact hd
        · exact h1 m o (by omega) ho

theorem SetM.pair (S : SetM C K ops F H nx N r) {i m : Nat} {x b : Oper} (hx : ops[i]? = some x) (hb : ops[m]? = some b) (him : i < m) :
    pairOk ops.toList (bit (nthD 0 (ancsOf [] ops.toList) m) i) x b = true := by
  have ha := anc_get hb
  have := pairsOk_get S.pairs anc_len m i b x _ (by simpa using hb) ha (by simpa using hx) (by simpa using him)
  rwa [show nthD 0 (ancsOf [] ops.toList) m = edgesOf ((ancsOf [] ops.toList).take m) b.after.toList by rw [nthD_eq, List.getD_eq_getElem?_getD, ha]; rfl]

theorem SetM.dst_ne (S : SetM C K ops F H nx N r) {i m : Nat} {x b : Oper} {d : Tmp} (hx : ops[i]? = some x) (hb : ops[m]? = some b) (hxd : x.dst = some d) (hbd : b.dst = some d) : i = m := by
  have key : ∀ {i m : Nat} {x b : Oper}, ops[i]? = some x → ops[m]? = some b → x.dst = some d → b.dst = some d → ¬ i < m := by
    intro i m x b hx hb hxd hbd him
    have := S.pair hx hb him
    unfold pairOk at this
    rw [eqO_some hxd hbd] at this
    simp at this
  have h1 := key hx hb hxd hbd
  have h2 := key hb hx hbd hxd
  omega

/-- What there is at last, place by place. -/
theorem SetM.G_low (S : SetM C K ops F H nx N r) : ∀ j, j ≤ ops.size → ∀ id, nx + j ≤ id ∨ id < nx → (r j).G id = H id
  | 0, _, id, _ => by rw [S.G0]
  | j + 1, hj, id, hid => by
    have hoj : ops[j]? = some ops[j] := by simp [show j < ops.size by omega]
    have ih := S.G_low j (by omega) id (by omega)
    rcases (S.step j _ hoj).2 with ⟨_, _, _, h⟩ | ⟨_, _, ⟨_, kd, xs, _, _, h⟩ | ⟨_, _, h⟩⟩
    · rw [h]; exact ih
    · rw [h, putH_eq, if_neg (by omega)]; exact ih
    · rw [h]; exact ih
theorem SetM.G_high (S : SetM C K ops F H nx N r) {j : Nat} : ∀ d, j + d ≤ ops.size → ∀ id, id < nx + j → (r (j + d)).G id = (r j).G id
  | 0, _, id, _ => rfl
  | d + 1, hj, id, hid => by
    have hoj : ops[j + d]? = some ops[j + d] := by simp [show j + d < ops.size by omega]
    have ih := S.G_high (j := j) d (by omega) id hid
    rw [show j + (d + 1) = j + d + 1 by omega]
    rcases (S.step (j + d) _ hoj).2 with ⟨_, _, _, h⟩ | ⟨_, _, ⟨_, kd, xs, _, _, h⟩ | ⟨_, _, h⟩⟩
    · rw [h]; exact ih
    · rw [h, putH_eq, if_neg (by omega)]; exact ih
    · rw [h]; exact ih
theorem SetM.G_at (S : SetM C K ops F H nx N r) {i : Nat} (hi : i < ops.size) : (r ops.size).G (nx + i) = (r (i + 1)).G (nx + i) := by
  have := S.G_high (j := i + 1) (ops.size - (i + 1)) (by omega) (nx + i) (by omega)
  rwa [show i + 1 + (ops.size - (i + 1)) = ops.size by omega] at this

/-- What there is while some are done. -/
def HL (G : Heap) (nx : Nat) (Λ : Array Bool) : Heap := fun id => if nx ≤ id ∧ Λ.getD (id - nx) false = false then none else G id

/-- Where some have come up. -/
structure InvM (C : Cfg) (K : FCfg) (ops : Array Oper) (F : Fr) (r : Nat → RecM) (N : Nat) (E0 : Env) (H0 : Heap) (fp0 : Fp) (w0 : World) (nx : Nat) (a0 : Act) (Λ : Array Bool) (E : Env) (fp : Fp) (w : World) (a : Act) : Prop where
  size : Λ.size = ops.size
  closed : ∀ j o, ops[j]? = some o → Λ.getD j false = true → ∀ e ∈ o.after, bindsAny e.ground = true → Λ.getD e.on false = true
  sim : Sim C.RT E (HL (r ops.size).G nx Λ) fp w
  le : E0.Le E
  M : ∀ a v, E.M a = some v → E0.M a = some v
  free : ∀ id, nx ≤ id → Λ.getD (id - nx) false = false → E.info id = none
  frm : Frm w0 (fun _ => False) w
  own : ∀ x, OwnAll (HL (r ops.size).G nx Λ) fp x → x.1 < w0.heap.size → OwnAll H0 fp0 x
  got : ∀ m o d, ops[m]? = some o → o.dst = some d → Λ.getD m false = true → RV C.RT E (r m).v (a.tmps.getD d undef)
  not : ∀ d, (∀ m o, ops[m]? = some o → o.dst = some d → Λ.getD m false = false) → RV C.RT E (F d) (a.tmps.getD d undef)
  asz : a.tmps.size = N
  df : a.defers = []
  same : Same (asgOps ops.toList) a0 a

variable {E0 : Env} {fp0 : Fp} {w0 : World} {a0 : Act} {Λ : Array Bool}

theorem InvM.sees (S : SetM C K ops F H nx N r) (I : InvM C K ops F r N E0 H fp0 w0 nx a0 Λ E fp w a) {i : Nat} {o : Oper} (ho : ops[i]? = some o) (hun : Λ.getD i false = false)
    (hed : ∀ e ∈ o.after, bindsAny e.ground = true → Λ.getD e.on false = true) {t : Tmp} (ht : t ∈ eyes ops.toList o) : RV C.RT E ((r i).F t) (a.tmps.getD t undef) := by
  have hdone := anc_done S.back I.closed (i + 1) i o (by omega) ho hed
  rcases S.frame i t (by have := op_lt ho; omega) with ⟨m, om, h1, h2, h3, h4⟩ | ⟨h1, h2⟩
  · rw [h4]
    refine I.got m om t h2 h3 (hdone m ?_)
    have := S.pair h2 ho h1
    unfold pairOk at this
    rw [memO_some h3 ht] at this
    simp only [Bool.not_true, Bool.false_and, Bool.or_false, Bool.and_eq_true] at this
    exact this.2
  · rw [h2]
    refine I.not t fun m om hm hd => ?_
    have hmi : ¬ m < i := fun h => h1 m om h hm hd
    rcases Nat.lt_or_ge i m with him | him
    · have := S.pair ho hm him
      unfold pairOk at this
      rw [memO_some hd ht] at this
      simp only [Bool.not_true, Bool.and_false, Bool.or_false, Bool.and_eq_true] at this
      cases hl : Λ.getD m false with
      | false => rfl
      | true =>
        have := anc_done S.back I.closed (m + 1) m om (by omega) hm (I.closed m om hm hl) i this.2
        rw [hun] at this; simp at this
    · have : m = i := by omega
      rw [this]; exact hun

/-- One more has come up. -/
theorem InvM.next (S : SetM C K ops F H nx N r) (I : InvM C K ops F r N E0 H fp0 w0 nx a0 Λ E fp w a) {i : Nat} {o : Oper} (ho : ops[i]? = some o)
    (hed : ∀ e ∈ o.after, bindsAny e.ground = true → Λ.getD e.on false = true) {E' : Env} {fp' : Fp} {w' : World} {u : Value} (hle : E.Le E') (hM : ∀ a v, E'.M a = some v → E.M a = some v)
    (hfree : ∀ id, nx ≤ id → (Λ.setIfInBounds i true).getD (id - nx) false = false → E'.info id = none) (hfrm : Frm w (fun _ => False) w')
    (hown : ∀ x, OwnAll (HL (r ops.size).G nx (Λ.setIfInBounds i true)) fp' x → x.1 < w.heap.size → OwnAll (HL (r ops.size).G nx Λ) fp x)
    (hs' : Sim C.RT E' (HL (r ops.size).G nx (Λ.setIfInBounds i true)) fp' w') (hv : RV C.RT E' (r i).v u) :
    InvM C K ops F r N E0 H fp0 w0 nx a0 (Λ.setIfInBounds i true) E' fp' w' (a.put o.dst u) := by
  have hi := op_lt ho
  have hdl : ∀ d, o.dst = some d → d < a.tmps.size := by
    intro d hd
    rw [I.asz]
    have key : ∀ l : List Oper, dstOps N l = true → o ∈ l → d < N := by
      intro l
      induction l with
      | nil => intro _ h; simp at h
      | cons x l ih =>
        intro h hm
        obtain ⟨h1, h2⟩ := dstOps_cons h
        rcases List.mem_cons.1 hm with rfl | hm
        · exact h1 d hd
        · exact ih h2 hm
    exact key _ S.dst (by simpa using Array.mem_of_getElem? ho)
  have hself : (Λ.setIfInBounds i true).getD i false = true := getD_set_self (by rw [I.size]; exact hi)
  refine ⟨by simp [I.size], fun j oj hj hl e he hb => ?_, hs', I.le.trans hle, fun a v h => I.M a v (hM a v h), hfree, I.frm.trans hfrm (fun _ h => by simp at h),
    fun x hx hlt => I.own x (hown x hx (Nat.lt_of_lt_of_le hlt I.frm.size)) hlt, fun m om d hm hd hl => ?_, fun d hd => ?_, by rw [Act.put_size]; exact I.asz, by cases o.dst <;> exact I.df, ?_⟩
  · by_cases hij : i = j
    · subst hij
      rw [ho] at hj
      obtain rfl := Option.some.inj hj
      exact getD_set_true (hed e he hb)
    · rw [getD_set_ne false hij] at hl
      exact getD_set_true (I.closed j oj hj hl e he hb)
  · by_cases him : i = m
    · subst him
      rw [ho] at hm
      obtain rfl := Option.some.inj hm
      rw [hd]
      simp only [Act.put]
      rw [getD_set_same (hdl d hd)]
      exact hv
    · rw [getD_set_ne false him] at hl
      have hne : o.dst ≠ some d := fun h => him (S.dst_ne ho hm h hd)
      have : (a.put o.dst u).tmps.getD d undef = a.tmps.getD d undef := by
        cases hod : o.dst with
        | none => rfl
        | some d' =>
          simp only [Act.put]
          exact getD_set_other fun he => hne (by rw [hod, he])
      rw [this]
      exact (I.got m om d hm hd hl).mono hle
  · have hne : o.dst ≠ some d := fun h => by
      have := hd i o ho h
      rw [hself] at this
      simp at this
    have : (a.put o.dst u).tmps.getD d undef = a.tmps.getD d undef := by
      cases hod : o.dst with
      | none => rfl
      | some d' =>
        simp only [Act.put]
        exact getD_set_other fun he => hne (by rw [hod, he])
    rw [this]
    refine (I.not d fun m om hm hdm => ?_).mono hle
    have := hd m om hm hdm
    by_cases him : i = m
    · subst him; rw [hself] at this; simp at this
    · rwa [getD_set_ne false him] at this
  · refine I.same.trans ((Same.put a o.dst u).mono fun j hj => ?_)
    have key : ∀ l : List Oper, o ∈ l → asgOps l j = true := by
      intro l
      induction l with
      | nil => intro h; simp at h
      | cons x l ih =>
        intro hm
        rcases List.mem_cons.1 hm with rfl | hm
        · exact asgOps_head hj
        · exact asgOps_tail (ih hm)
    exact key _ (by simpa using Array.mem_of_getElem? ho)

/-- .. one that makes nothing. -/
theorem InvM.still (S : SetM C K ops F H nx N r) (hnone : ∀ id, nx ≤ id → H id = none) (I : InvM C K ops F r N E0 H fp0 w0 nx a0 Λ E fp w a) {i : Nat} {o : Oper} (ho : ops[i]? = some o)
    (hed : ∀ e ∈ o.after, bindsAny e.ground = true → Λ.getD e.on false = true) {u : Value} (hG : (r (i + 1)).G = (r i).G) (hv : RV C.RT E (r i).v u) :
    InvM C K ops F r N E0 H fp0 w0 nx a0 (Λ.setIfInBounds i true) E fp w (a.put o.dst u) := by
  have hi := op_lt ho
  have hGi : (r ops.size).G (nx + i) = none := by
    rw [S.G_at hi, hG, S.G_low i (by omega) _ (Or.inl (Nat.le_refl _)), hnone _ (by omega)]
  have hHL : HL (r ops.size).G nx (Λ.setIfInBounds i true) = HL (r ops.size).G nx Λ := by
    funext id
    unfold HL
    by_cases he : id = nx + i
    · subst he
      rw [hGi]
      simp
    · by_cases hn : nx ≤ id
      · rw [getD_set_ne false (by omega)]
      · rw [if_neg (by omega), if_neg (by omega)]
  refine I.next S ho hed (.refl E) (fun _ _ h => h) (fun id h0 h1 => ?_) (Frm.refl w _) (fun x hx _ => by rw [hHL] at hx; exact hx) (by rw [hHL]; exact I.sim) hv
  by_cases he : id - nx = i
  · rw [he, getD_set_self (by rw [I.size]; exact hi)] at h1
    simp at h1
  · rw [getD_set_ne false (fun h => he h.symm)] at h1
    exact I.free id h0 h1

theorem evMk_sound {o : Oper} {b : Nat} {k : IntKind → List Int → Option Y} (hs : Sim RT E H fp w) (hf : E.info b = none) (hr : RF RT E F a) (hk : evMk C F o.op k = some y) :
    ∃ kd xs I u w', k kd xs = some y ∧ (execOp a.eval o).run C.P w = .ok (.value u) w' ∧ R RT (putI E b I) (.full b true) u ∧
      Sim RT (putI E b I) (putH H b (some (.ints true kd xs))) (putFp fp b (Own I)) w' ∧ Frm w (fun _ => False) w' ∧ I.cb = w.heap.size := by
  unfold evMk at hk
  split at hk
  · rename_i t l c ho
    obtain ⟨kd, xs, I, u, w', h1, h2, h3⟩ := mk_sound (P := C.P) hs hf (opd_sound hr l) (opd_sound hr c) hk
    refine ⟨kd, xs, I, u, w', h1, ?_, h3⟩
    unfold execOp
    simp only [ho]
    simp only [Sem.run_bind, h2, Result.andThen_ok, Sem.run_pure]
  · simp at hk

/-- An operation that may come up. -/
theorem InvM.op (S : SetM C K ops F H nx N r) (hnone : ∀ id, nx ≤ id → H id = none) (I : InvM C K ops F r N E0 H fp0 w0 nx a0 Λ E fp w a) {i : Nat} {o : Oper} (ho : ops[i]? = some o) (hun : Λ.getD i false = false)
    (hed : ∀ e ∈ o.after, bindsAny e.ground = true → Λ.getD e.on false = true) {Q : Exit → Act → World → Prop} {Kk : Act → World → Prop}
    (hK : ∀ E' fp' w' a', InvM C K ops F r N E0 H fp0 w0 nx a0 (Λ.setIfInBounds i true) E' fp' w' a' → Kk a' w') : wpOp C.P ops Q i Kk a w := by
  have hi := op_lt ho
  have hG : GuardRel ops o C.RT E (r i).F a := fun g want d hg hd => I.sees S ho hun hed (eyes_guard hg hd)
  have hrf : RF C.RT E (only o.op.operands (r i).F) a := only_rf fun t ht => I.sees S ho hun hed (eyes_opd ht)
  have hco : ∀ x ∈ o.op.operands, evOpd (r i).F x = evOpd (only o.op.operands (r i).F) x := fun x hx => (only_opd hx).symm
  unfold wpOp
  simp only [ho]
  rcases (S.step i o ho).2 with ⟨h1, h2, h3, h4⟩ | ⟨h1, h2, ⟨hm, kd, xs, hev, hv, hgr⟩ | ⟨hm, hev, hgr⟩⟩
  · rw [if_neg (by rw [h2 _ _ _ hG]; simp)]
    exact hK E fp w _ (I.still S hnone ho hed h4 (by rw [h3]; exact R.und))
  · rw [if_pos (h2 _ _ _ hG)]
    left
    have hev' : evMk C (only o.op.operands (r i).F) o.op (fun kd xs => some (kd, xs)) = some (kd, xs) := by
      rw [← hev]
      unfold evMk
      split
      · rename_i t l c hop
        rw [hco l (by rw [hop]; simp [Op.operands]), hco c (by rw [hop]; simp [Op.operands])]
      · rfl
    have hfr := I.free (nx + i) (by omega) (by rw [Nat.add_sub_cancel_left]; exact hun)
    obtain ⟨kd', xs', J, u, w', g1, g2, g3, g4, g5, g6⟩ := evMk_sound (b := nx + i) I.sim hfr hrf hev'
    simp only [Option.some.injEq, Prod.mk.injEq] at g1
    obtain ⟨rfl, rfl⟩ := g1
    unfold Oper.wp
    rw [g2]
    have hGi : (r ops.size).G (nx + i) = some (.ints true kd' xs') := by rw [S.G_at hi, hgr, putH_eq, if_pos rfl]
    have hHL : HL (r ops.size).G nx (Λ.setIfInBounds i true) = putH (HL (r ops.size).G nx Λ) (nx + i) (some (.ints true kd' xs')) := by
      funext id
      rw [putH_eq]
      by_cases he : id = nx + i
      · subst he
        rw [if_pos rfl]
        unfold HL
        rw [Nat.add_sub_cancel_left, getD_set_self (by rw [I.size]; exact hi), if_neg (by simp)]
        exact hGi
      · rw [if_neg he]
        unfold HL
        by_cases hn : nx ≤ id
        · rw [getD_set_ne false (by omega)]
        · rw [if_neg (by omega), if_neg (by omega)]
    refine hK _ _ w' _ (I.next S ho hed (putI_le hfr) (fun _ _ h => h) (fun id h0 h1 => ?_) g5 (fun x hx hlt => ?_) (by rw [hHL]; exact g4) (by rw [hv]; exact g3))
    · by_cases he : id - nx = i
      · rw [he, getD_set_self (by rw [I.size]; exact hi)] at h1
        simp at h1
      · rw [getD_set_ne false (fun h => he h.symm)] at h1
        simp only [putI]
        rw [if_neg (by omega)]
        exact I.free id h0 h1
    · obtain ⟨id, b, hb, hx⟩ := hx
      rw [hHL, putH_eq] at hb
      simp only [putFp] at hx
      split at hb
      · rename_i he
        rw [if_pos he] at hx
        have := hx.1
        omega
      · rename_i he
        rw [if_neg he] at hx
        exact ⟨id, b, hb, hx⟩
  · rw [if_pos (h2 _ _ _ hG)]
    left
    rw [evR_congr hco] at hev
    have hsub : Sim C.RT E H fp w := I.sim.sub fun id b hb => by
      unfold HL
      rw [if_neg (fun h => by have := hnone id h.1; rw [this] at hb; simp at hb)]
      have hlt : id < nx := by
        rcases Nat.lt_or_ge id nx with h | h
        · exact h
        · rw [hnone id h] at hb; simp at hb
      rw [S.G_low _ (Nat.le_refl _) id (Or.inr hlt)]
      exact hb
    obtain ⟨v, u, g1, g2, g3⟩ := evR_sound hrf hsub hev
    simp only [Option.some.injEq] at g1
    unfold Oper.wp
    rw [g2]
    exact hK E fp w _ (I.still S hnone ho hed hgr (by rw [← g1]; exact g3))

theorem anyM_ok (S : SetM C K ops F H nx N r) (hnone : ∀ id, nx ≤ id → H id = none) {Q : Exit → Act → World → Prop}
    (hfin : ∀ Λ E fp w a, InvM C K ops F r N E0 H fp0 w0 nx a0 Λ E fp w a → (∀ j, j < ops.size → Λ.getD j false = true) → Q .normal a w) :
    ∀ (fuel : Nat) (Λ : Array Bool) (E : Env) (fp : Fp) (w : World) (a : Act), Λ.toList.count false ≤ fuel → InvM C K ops F r N E0 H fp0 w0 nx a0 Λ E fp w a → wpAny C.P .any ops Q fuel Λ a w
  | 0, Λ, E, fp, w, a, hf, I => by
    have hall : ∀ j, j < ops.size → Λ.getD j false = true := by
      intro j hj
      have hlt : j < Λ.size := by rw [I.size]; exact hj
      cases hl : Λ.getD j false with
      | true => rfl
      | false =>
        have hm : false ∈ Λ.toList := by
          simp [hlt] at hl
          rw [← hl]
          simp
        have := List.count_pos_iff.2 hm
        omega
    refine ⟨?_, hfin Λ E fp w a I hall⟩
    rw [List.eq_nil_iff_forall_not_mem]
    intro j hj
    rw [mem_ready] at hj
    obtain ⟨h1, o, ho, _⟩ := hj
    have := hall j (op_lt ho)
    have hlt : j < Λ.size := by rw [I.size]; exact op_lt ho
    simp [hlt] at h1 this
    rw [this] at h1
    simp at h1
  | fuel + 1, Λ, E, fp, w, a, hf, I => by
    refine ⟨fun hr => hfin Λ E fp w a I fun j hj => least_ready S.back I.size hr (j + 1) j (by omega) hj, fun i hi => ?_⟩
    rw [mem_ready] at hi
    obtain ⟨h1, o, ho, hed⟩ := hi
    have hlt : i < Λ.size := by rw [I.size]; exact op_lt ho
    have hun : Λ.getD i false = false := by simp [hlt] at h1 ⊢; exact h1
    refine I.op S hnone ho hun (fun e he hb => hed e he (by rw [binds_eq]; exact hb)) fun E' fp' w' a' I' => anyM_ok S hnone hfin fuel _ E' fp' w' a' ?_ I'
    have hli : Λ.toList[i]'(by simpa using hlt) = false := by simp [hlt] at hun; simpa using hun
    rw [Array.toList_setIfInBounds, List.count_set (by simpa using hlt)]
    rw [hli]
    have e1 : (false == false) = true := rfl
    have e2 : ¬ (true == false) = true := by decide
    rw [if_pos e1, if_neg e2]
    omega

/-- A REGION THAT MAKES SLICES IN WHATEVER ORDER. -/
theorem evDrawM_sound (hC : CfgOK C) {k : KS Y} {id n : Nat} {Q : Exit → Act → World → Prop}
    (hk : evDrawM C K ops.toList F H nx k = some y) (st : St C.RT E H fp w F a nx n) (hd : dstOps n ops.toList = true)
    (hQ : ∀ F' H' nx' E' fp' a' w', k F' H' nx' = some y → St C.RT E' H' fp' w' F' a' nx' n → Trip C E H fp w nx E' H' fp' w' nx' → Same (asgOps ops.toList) a a' → Q .normal a' w') :
    (Code.region id ops true).wp C.P Q a w := by
  unfold evDrawM at hk
  rw [gate_some] at hk
  obtain ⟨hg, hk⟩ := hk
  simp only [Bool.and_eq_true] at hg
  obtain ⟨hb, hp⟩ := hg
  obtain ⟨r, r1, r2, r3, r4⟩ := evMks_trace ops.toList 0 F H hk (fun j => by simp)
  have S : SetM C K ops F H nx n r := ⟨hC, r1, r2, fun j o ho => r3 j o (Nat.zero_le _) ho, hb, hp, hd⟩
  have hnone : ∀ id, nx ≤ id → H id = none := fun id h => fresh_heap st.sim st.fresh h
  have hdrew : Frm w (fun _ => False) { w with drawn := w.drawn + 1 } := Frm.drew w _
  have hsim : Sim C.RT E H fp { w with drawn := w.drawn + 1 } := st.sim.frm hdrew (fun _ _ h => h) (fun _ _ _ h => h)
  have hGe : ∀ id, nx + ops.size ≤ id ∨ id < nx → (r ops.size).G id = H id := fun id h => S.G_low ops.size (Nat.le_refl _) id h
  rw [Nat.zero_add] at r4
  simp only [Array.length_toList] at r4
  rw [len_eq'] at r4
  simp only [Array.length_toList] at r4
  refine wp_region_any hC.wide (anyM_ok (E0 := E) (fp0 := fp) (w0 := w) (a0 := a) S hnone (fun Λ E' fp' w' a' I hall => ?_) ops.size _ E fp _ a (by simp) ?_)
  · have hHL : HL (r ops.size).G nx Λ = (r ops.size).G := by
      funext id
      unfold HL
      by_cases h : nx ≤ id ∧ Λ.getD (id - nx) false = false
      · rw [if_pos h]
        rcases Nat.lt_or_ge (id - nx) ops.size with hl | hl
        · have := hall _ hl; rw [this] at h; simp at h
        · rw [hGe id (Or.inl (by omega)), hnone id h.1]
      · rw [if_neg h]
    have hsim' := I.sim
    have hown := I.own
    rw [hHL] at hsim' hown
    have hfresh : Fresh E' (nx + ops.size) := fun id hid => I.free id (by omega) (by
      have : ¬ id - nx < Λ.size := by rw [I.size]; omega
      simp [Array.getD, this])
    have hstep : Step E H fp w nx E' (r ops.size).G fp' w' (nx + ops.size) := ⟨I.le, I.frm.mono fun _ h => by simp at h, hown, by omega, hfresh, fun a v h => Or.inl (I.M a v h)⟩
    refine hQ _ _ _ E' fp' a' w' r4 ⟨hsim', hfresh, fun t => ?_, I.asz, I.df⟩ hstep.trip I.same
    rcases S.frame ops.size t (Nat.le_refl _) with ⟨m, o, h1, h2, h3, h4⟩ | ⟨h1, h2⟩
    · rw [h4]
      exact I.got m o t h2 h3 (hall m h1)
    · rw [h2]
      exact I.not t fun m o hm hd => absurd hd (h1 m o (op_lt hm) hm)
  · have hHL : HL (r ops.size).G nx (Array.replicate ops.size false) = H := by
      funext id
      unfold HL
      by_cases h : nx ≤ id
      · rw [if_pos ⟨h, by
          rcases Nat.lt_or_ge (id - nx) ops.size with hl | hl
          · simp [Array.getD, hl]
          · simp [Array.getD, hl]⟩, hnone id h]
      · rw [if_neg (fun hh => h hh.1), hGe id (Or.inr (by omega))]
    refine ⟨by simp, fun j o hj hl => ?_, by rw [hHL]; exact hsim, .refl E, fun _ _ h => h, fun id h0 _ => st.fresh id h0, hdrew, fun x hx _ => by rw [hHL] at hx; exact hx, fun m o d hm hd hl => ?_, fun d _ => st.rf d, st.size, st.df, .refl _ _⟩
    · have := op_lt hj
      simp [this] at hl
    · have := op_lt hm
      simp [this] at hl

/-- A REGION IN WHATEVER ORDER. -/
theorem evDraw_sound (hC : CfgOK C) {k : KS Y} {id n : Nat} {Q : Exit → Act → World → Prop}
    (hk : evDraw C K ops.toList F H nx k = some y) (st : St C.RT E H fp w F a nx n) (hd : dstOps n ops.toList = true)
    (hQ : ∀ F' H' nx' E' fp' a' w', k F' H' nx' = some y → St C.RT E' H' fp' w' F' a' nx' n → Trip C E H fp w nx E' H' fp' w' nx' → Same (asgOps ops.toList) a a' → Q .normal a' w') :
    (Code.region id ops true).wp C.P Q a w := by
  unfold evDraw at hk
  cases hm : anyMk K ops.toList with
  | true => simp only [hm] at hk; exact evDrawM_sound hC hk st hd hQ
  | false => simp only [hm] at hk; exact evDrawC_sound hC hk st hd hQ

end Go.Eng
